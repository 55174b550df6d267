/- What Check says, as a plain function; container.parts. -/
import Derived.Test.YtkbboepopcebaaaF
import Derived.Test.YtkbboepopcebaaaProg
namespace Go.Proofs.Ytkbboepopcebaaa
open Go.RowKit

def partsErr (most : Int) : List (List Int) → Int
  | [] => 0
  | p :: r => if p.length = 0 then 56 else if most < (p.length : Int) then 2 else partsErr most r
def tyOk (first : Bool) (t : Ty) : Bool := fitsIn first t.i && (fitsOut first t.o && fitsMost t.m)
def tysOk : Bool → List Ty → Bool
  | _, [] => true
  | f, t :: r => tyOk f t && tysOk false r
def tysErr (ts : List Ty) : Int := if tysOk true ts then 0 else 59
def checkErr (c : Cont) : Int :=
  if c.codes.length = 0 ∨ 1024 < c.codes.length then 55
  else if c.types.length ≠ c.codes.length then 54
  else if partsErr 65535 c.codes ≠ 0 then partsErr 65535 c.codes
  else if 256 < c.subs.length then 57
  else if partsErr 4294967295 c.subs ≠ 0 then partsErr 4294967295 c.subs
  else if 65535 < c.size then 2
  else if c.size < (c.data.length : Int) then 1
  else tysErr c.types

theorem drop_get {α : Type} (l : List α) (k : Nat) (d : α) (h : k < l.length) : l.drop k = l.getD k d :: l.drop (k + 1) := by
  rw [List.drop_eq_getElem_cons h]
  simp [List.getD_eq_getElem?_getD, h]
theorem ret_int {k : IntKind} {a b : Int} (h : a = b) : Ending.returned (.int k a) = .returned (.int k b) := by rw [h]

set_option maxRecDepth 100000 in
theorem parts_any (A : Option Addr) (c n : Nat) (most : Int) (ll : List (List Int)) (w : World) (hn : n = ll.length) (h : PartsR w A ll) :
    Calls Try.prog 45 #[.slice A n c, .int .i64 most] w fun e w' => e = .returned (.int .i64 (partsErr most ll)) ∧ w = w' := by
  have HN := Lib.hid hn
  have hmx : n ≤ 9223372036854775807 := by have := h.1; unfold reach at this; omega
  clear hn
  have HP := Lib.hid h; clear h
  go_enter Try.func45, Try.ntmps45
  go_wp2
  go_loop [6, 9] (fun _ i => ∃ k : Nat, k ≤ n ∧ i = .int .i64 k ∧ partsErr most (ll.drop k) = partsErr most ll) (fun _ i => n - (intOf i).toNat)
  case atStart => exact ⟨0, Nat.zero_le _, rfl, rfl⟩
  case round =>
    obtain ⟨k, hk, rfl, he⟩ := hrel
    have he' := Lib.hid he; clear he
    by_cases hlt : k < n
    · have hk2 : k < ll.length := by have := HN.out; omega
      obtain ⟨b1, o1, rfl, hc⟩ := HP.out.2 (by omega)
      obtain ⟨v, hcell, A1, c1, rfl, _, _, _⟩ := hc k hk2
      have hd := drop_get ll k [] hk2
      obtain ⟨l, hl⟩ : ∃ l, l = ll.getD k [] := ⟨_, rfl⟩
      rw [← hl] at hcell hd
      have HL := Lib.hid hl
      have HD := Lib.hid hd
      clear hc hl hd
      obtain ⟨m, hm⟩ : ∃ m, m = l.length := ⟨_, rfl⟩
      rw [← hm] at hcell
      have HM := Lib.hid hm
      clear hm
      by_cases h0 : m = 0
      · have h1 : ((m : Int) == 0) = true := by simp [h0]
        have H0 := Lib.hid h0
        clear h0
        go_wp2
        go_ret
        refine ⟨ret_int ?_, rfl⟩
        rw [← he'.out, HD.out, partsErr, if_pos (by have := HM.out; have := H0.out; omega)]
      · have h1 : ((m : Int) == 0) = false := by simp; omega
        by_cases h2 : most < (m : Int)
        · go_wp2
          go_ret
          refine ⟨ret_int ?_, rfl⟩
          rw [← he'.out, HD.out, partsErr, if_neg (by have := HM.out; omega), if_pos (by have := HM.out; omega)]
        · go_wp2
          go_round
          case rel =>
            refine ⟨k + 1, by omega, by go_num, ?_⟩
            rw [← he'.out, HD.out, partsErr, if_neg (by have := HM.out; omega), if_neg (by have := HM.out; omega)]
          case measure => simp [intOf]; omega
    · go_wp2
      go_ret
      refine ⟨ret_int ?_, rfl⟩
      rw [← he'.out, List.drop_of_length_le (by have := HN.out; omega)]
      rfl
end Go.Proofs.Ytkbboepopcebaaa
namespace Go.Proofs.Ytkbboepopcebaaa
open Go.RowKit

def Own8 (w : World) (B : Nat) (v : Value) (l : List Int) : Prop := w.ownsRow B 5 1 v l.length (nums .u8 l)
theorem Own8.below {w w1 : World} {B : Nat} {v : Value} {l : List Int} (h : Own8 w B v l) (hb : Below w.heap.size w w1) : Own8 w1 B v l := own_below h hb
theorem Own8.nil (w : World) (B : Nat) : Own8 w B (.slice none 0 0) [] := World.ownsRow_nil _ _ _ _
theorem Own8.reads {w : World} {B : Nat} {v : Value} {l : List Int} (h : Own8 w B v l) (hr : l.length ≤ reach) : NumsV w .u8 v l := own_nums h hr
theorem Own8.base {w : World} {B B' : Nat} {v : Value} {l : List Int} (h : Own8 w B v l) (hb : B' ≤ B) : Own8 w B' v l := own_base h hb
theorem infoB : (Try.prog.info? 5).map (fun i => (i.zero, i.size, i.bytes)) = some (some (.int .u8 0), 1, 1) := by kernel_rfl

section
variable {ops : Array Oper} {rest : List Oper} {o : Oper} {a : Act} {Q : Exit → Act → World → Prop}
/-- append(v, new...), the source at an address. -/
theorem app_at {W : World} (s x : Operand) (hgd : o.guard = none) (ho : o.op = .call { callee := .builtin .append, args := #[s, x], argTypes := #[22, 22] })
    (B : Nat) (v : Value) (l new : List Int) (hs : a.eval s = v) (HO : Hid (Own8 W B v l)) (ad : Addr) (m c : Nat) (hx : a.eval x = .slice (some ad) m c) (hm : Hid (new.length = m))
    (hnew : Hid (∀ (j : Nat) (u : Value), (nums .u8 new)[j]? = some u → W.cell? (ad.add j) = some u)) (hB : B ≤ W.heap.size) (hl : Hid (l.length + new.length ≤ reach))
    (h : ∀ v' w', Own8 w' B v' (l ++ new) → Below B W w' → W.grownBy w' v.ownBlock → (v'.ownBlock = v.ownBlock ∨ v'.ownBlock = some W.heap.size) → wpList Try.prog ops Q rest (a.put o.dst v') w') : wpList Try.prog ops Q (o :: rest) a W := by
  obtain ⟨i0, hi, hz0, hz1, hz2⟩ := info_parts infoB
  have h1 := HO.out
  have h2 := hm.out
  have h3 := hl.out
  unfold reach at h3
  refine wpList_append_own_at W hgd s x 22 ho B 5 i0 (.int .u8 0) 1 1 Try.underlying22 hi hz0 hz1 hz2 rfl (by decide) v l.length (nums .u8 l) hs h1 ad m c (nums .u8 new) hx (by rw [nums_length, h2]; omega) hnew.out (nums_one _ _) (by unfold maxLen; omega) (by omega) hB ?_
  intro v' w' hown hg _ hat
  refine h v' w' ?_ ((Below.refl _ _).grown hg hB (own_ge h1)) hg hat
  unfold Own8
  rw [List.length_append, nums_append, h2]
  exact hown
/-- append(v, y), one byte, in its box. -/
theorem app_byte {W : World} {y : Int} (s x : Operand) (hgd : o.guard = none) (ho : o.op = .call { callee := .builtin .append, args := #[s, x], argTypes := #[22, 22] })
    (B : Nat) (v : Value) (l : List Int) (hs : a.eval s = v) (HO : Hid (Own8 W B v l)) (hx : a.eval x = .slice (some ⟨W.heap.size, 0, none⟩) 1 1) (hB : B ≤ W.heap.size) (hl : Hid (l.length + 1 ≤ reach))
    (h : ∀ v' w', Own8 w' B v' (l ++ [y]) → Below B W w' → wpList Try.prog ops Q rest (a.put o.dst v') w') : wpList Try.prog ops Q (o :: rest) a (W.alloc (.cells #[.int .u8 y] 5)) := by
  refine app_at s x hgd ho B v l [y] hs (Lib.hid (HO.out.below (below_alloc _ _))) ⟨W.heap.size, 0, none⟩ 1 1 hx (Lib.hid rfl) (Lib.hid ?_) (by simp; omega) (Lib.hid (by have := hl.out; simpa using this)) ?_
  · intro j u hj
    match j, hj with
    | 0, hj => simp [nums] at hj; subst hj; simp [Addr.add]
  · intro v' w' hown hb _ _
    exact h v' w' hown (((Below.refl _ _).alloc hB _).trans hb)
/-- append(v, src...), the source nil or not. -/
theorem app_list {W : World} (s x : Operand) (hgd : o.guard = none) (ho : o.op = .call { callee := .builtin .append, args := #[s, x], argTypes := #[22, 22] })
    (B : Nat) (v src : Value) (l new : List Int) (hs : a.eval s = v) (HO : Hid (Own8 W B v l)) (hx : a.eval x = src) (hnew : Hid (NumsV W .u8 src new)) (hB : B ≤ W.heap.size) (hl : Hid (l.length + new.length ≤ reach))
    (h : ∀ v' w', Own8 w' B v' (l ++ new) → Below B W w' → wpList Try.prog ops Q rest (a.put o.dst v') w') : wpList Try.prog ops Q (o :: rest) a W := by
  obtain ⟨A, c, rfl, h1, h2, h3⟩ := hnew.out
  cases A with
  | none =>
    obtain rfl := h2 rfl
    obtain rfl : new = [] := List.eq_nil_of_length_eq_zero (by omega)
    obtain ⟨i0, hi, hz0, hz1, hz2⟩ := info_parts infoB
    refine wpList_append_own_none hgd s x 22 ho B 5 i0 1 Try.underlying22 hi v l.length (nums .u8 l) hs HO.out (by simpa using hx) ?_
    refine h v W ?_ (Below.refl _ _)
    rw [List.append_nil]
    exact HO.out
  | some ad => exact app_at s x hgd ho B v l new hs HO ad _ c hx (Lib.hid rfl) (Lib.hid h3.src) hB hl fun v' w' hown hb _ _ => h v' w' hown hb
end

/-- n in s bytes, the highest first. -/
def be (n : Int) : Nat → List Int
  | 0 => []
  | s + 1 => (n / 256 ^ s % 256) :: be n s
theorem be_length (n : Int) (s : Nat) : (be n s).length = s := by induction s with | zero => rfl | succ s ih => simp [be, ih]
end Go.Proofs.Ytkbboepopcebaaa
namespace Go.Proofs.Ytkbboepopcebaaa
open Go.RowKit
theorem quo_pos (x : Int) (h : 0 ≤ x) : x.tdiv 256 = x / 256 := Int.tdiv_eq_ediv_of_nonneg h

set_option maxRecDepth 100000 in
theorem put2 (v : Value) (l : List Int) (x : Int) (B : Nat) (w : World) (h0 : 0 ≤ x) (h1 : x ≤ 4294967295) (hB : B ≤ w.heap.size) (hO : Own8 w B v l) (hl : l.length + 2 ≤ reach) :
    Calls Try.prog 49 #[v, .int .i64 x, .int .i64 2] w fun e w' => ∃ v', e = .returned v' ∧ Own8 w' B v' (l ++ be x 2) ∧ Below B w w' := by
  have HO := Lib.hid hO; clear hO
  have HL := Lib.hid hl; clear hl
  go_enter Try.func49, Try.ntmps49
  go_wp2
  go_loopw [0, 2] (fun u i wr => ∃ (t : Nat) (z : Int), t ≤ 2 ∧ z = 1 - t ∧ i = .int .i64 z ∧ Own8 wr B u (l ++ (be x 2).take t) ∧ Below B w wr) (fun _ i _ => (intOf i + 1).toNat)
  case atStart => exact ⟨0, 1, by omega, by omega, rfl, by simpa using HO.out, Below.refl _ _⟩
  case round =>
    obtain ⟨t, z, ht, hz, rfl, ho, hb⟩ := hrel
    have HO2 := Lib.hid ho
    have HB := Lib.hid hb
    have hsz : B ≤ wr.heap.size := by have := hb.size; omega
    clear ho hb HO
    have hcases : t = 0 ∨ t = 1 ∨ t = 2 := by omega
    rcases hcases with rfl | rfl | rfl
    · obtain rfl : z = 1 := by omega
      clear hz
      go_wp2_with (at_builtin; refine app_byte (.tmp 13) (.tmp 19) rfl rfl B _ _ rfl HO2.out rfl hsz (Lib.hid ?hl0) ?_)
      case hl0 => have := HL.out; simp [be_length]; omega
      intro v' w' hown hb2
      have HO3 := Lib.hid hown
      have HB3 := Lib.hid (HB.out.trans hb2)
      clear hown hb2
      go_wp2
      go_roundw
      case rel => exact ⟨1, 0, by omega, by omega, by first | rfl | go_num, by have := HO3.out; first | simpa [be, List.append_assoc] using this | (have e : x / 16777216 % 256 = x / 16777216 := (by omega); simpa [be, e, List.append_assoc] using this), HB3.out⟩
      case measure => simp [intOf]
    · obtain rfl : z = 0 := by omega
      clear hz
      go_wp2_with (at_builtin; refine app_byte (.tmp 13) (.tmp 19) rfl rfl B _ _ rfl HO2.out rfl hsz (Lib.hid ?hl1) ?_)
      case hl1 => have := HL.out; simp [be_length]; omega
      intro v' w' hown hb2
      have HO3 := Lib.hid hown
      have HB3 := Lib.hid (HB.out.trans hb2)
      clear hown hb2
      go_wp2
      go_roundw
      case rel => exact ⟨2, -1, by omega, by omega, by first | rfl | go_num, by have := HO3.out; first | simpa [be, List.append_assoc] using this | (have e : x / 16777216 % 256 = x / 16777216 := (by omega); simpa [be, e, List.append_assoc] using this), HB3.out⟩
      case measure => simp [intOf]
    · obtain rfl : z = -1 := by omega
      clear hz
      go_wp2
      go_ret
      exact ⟨_, rfl, by have := HO2.out; simpa [be] using this, HB.out⟩

set_option maxRecDepth 100000 in
theorem put4 (v : Value) (l : List Int) (x : Int) (B : Nat) (w : World) (h0 : 0 ≤ x) (h1 : x ≤ 4294967295) (hB : B ≤ w.heap.size) (hO : Own8 w B v l) (hl : l.length + 4 ≤ reach) :
    Calls Try.prog 49 #[v, .int .i64 x, .int .i64 4] w fun e w' => ∃ v', e = .returned v' ∧ Own8 w' B v' (l ++ be x 4) ∧ Below B w w' := by
  have HO := Lib.hid hO; clear hO
  have HL := Lib.hid hl; clear hl
  go_enter Try.func49, Try.ntmps49
  go_wp2
  go_loopw [0, 2] (fun u i wr => ∃ (t : Nat) (z : Int), t ≤ 4 ∧ z = 3 - t ∧ i = .int .i64 z ∧ Own8 wr B u (l ++ (be x 4).take t) ∧ Below B w wr) (fun _ i _ => (intOf i + 1).toNat)
  case atStart => exact ⟨0, 3, by omega, by omega, rfl, by simpa using HO.out, Below.refl _ _⟩
  case round =>
    obtain ⟨t, z, ht, hz, rfl, ho, hb⟩ := hrel
    have HO2 := Lib.hid ho
    have HB := Lib.hid hb
    have hsz : B ≤ wr.heap.size := by have := hb.size; omega
    clear ho hb HO
    have hcases : t = 0 ∨ t = 1 ∨ t = 2 ∨ t = 3 ∨ t = 4 := by omega
    rcases hcases with rfl | rfl | rfl | rfl | rfl
    · obtain rfl : z = 3 := by omega
      clear hz
      go_wp2_with (at_builtin; refine app_byte (.tmp 13) (.tmp 19) rfl rfl B _ _ rfl HO2.out rfl hsz (Lib.hid ?hl0) ?_)
      case hl0 => have := HL.out; simp [be_length]; omega
      intro v' w' hown hb2
      have HO3 := Lib.hid hown
      have HB3 := Lib.hid (HB.out.trans hb2)
      clear hown hb2
      go_wp2
      go_roundw
      case rel => exact ⟨1, 2, by omega, by omega, by first | rfl | go_num, by have := HO3.out; first | simpa [be, List.append_assoc] using this | (have e : x / 16777216 % 256 = x / 16777216 := (by omega); simpa [be, e, List.append_assoc] using this), HB3.out⟩
      case measure => simp [intOf]
    · obtain rfl : z = 2 := by omega
      clear hz
      go_wp2_with (at_builtin; refine app_byte (.tmp 13) (.tmp 19) rfl rfl B _ _ rfl HO2.out rfl hsz (Lib.hid ?hl1) ?_)
      case hl1 => have := HL.out; simp [be_length]; omega
      intro v' w' hown hb2
      have HO3 := Lib.hid hown
      have HB3 := Lib.hid (HB.out.trans hb2)
      clear hown hb2
      go_wp2
      go_roundw
      case rel => exact ⟨2, 1, by omega, by omega, by first | rfl | go_num, by have := HO3.out; first | simpa [be, List.append_assoc] using this | (have e : x / 16777216 % 256 = x / 16777216 := (by omega); simpa [be, e, List.append_assoc] using this), HB3.out⟩
      case measure => simp [intOf]
    · obtain rfl : z = 1 := by omega
      clear hz
      go_wp2_with (at_builtin; refine app_byte (.tmp 13) (.tmp 19) rfl rfl B _ _ rfl HO2.out rfl hsz (Lib.hid ?hl2) ?_)
      case hl2 => have := HL.out; simp [be_length]; omega
      intro v' w' hown hb2
      have HO3 := Lib.hid hown
      have HB3 := Lib.hid (HB.out.trans hb2)
      clear hown hb2
      go_wp2
      go_roundw
      case rel => exact ⟨3, 0, by omega, by omega, by first | rfl | go_num, by have := HO3.out; first | simpa [be, List.append_assoc] using this | (have e : x / 16777216 % 256 = x / 16777216 := (by omega); simpa [be, e, List.append_assoc] using this), HB3.out⟩
      case measure => simp [intOf]
    · obtain rfl : z = 0 := by omega
      clear hz
      go_wp2_with (at_builtin; refine app_byte (.tmp 13) (.tmp 19) rfl rfl B _ _ rfl HO2.out rfl hsz (Lib.hid ?hl3) ?_)
      case hl3 => have := HL.out; simp [be_length]; omega
      intro v' w' hown hb2
      have HO3 := Lib.hid hown
      have HB3 := Lib.hid (HB.out.trans hb2)
      clear hown hb2
      go_wp2
      go_roundw
      case rel => exact ⟨4, -1, by omega, by omega, by first | rfl | go_num, by have := HO3.out; first | simpa [be, List.append_assoc] using this | (have e : x / 16777216 % 256 = x / 16777216 := (by omega); simpa [be, e, List.append_assoc] using this), HB3.out⟩
      case measure => simp [intOf]
    · obtain rfl : z = -1 := by omega
      clear hz
      go_wp2
      go_ret
      exact ⟨_, rfl, by have := HO2.out; simpa [be] using this, HB.out⟩

set_option maxRecDepth 100000 in
theorem number1 (v : Value) (l : List Int) (x : Int) (B : Nat) (w : World) (h0 : 0 ≤ x) (h1 : x ≤ 4294967295) (hB : B ≤ w.heap.size) (hO : Own8 w B v l) (hl : l.length + 1 ≤ reach) :
    Calls Try.prog 70 #[v, .int .i64 x, .int .i64 1] w fun e w' => ∃ v', e = .returned v' ∧ Own8 w' B v' (l ++ be x 1) ∧ Below B w w' := by
  have HO := Lib.hid hO; clear hO
  have HL := Lib.hid hl; clear hl
  go_enter Try.func70, Try.ntmps70
  go_wp2
  go_loopw [0, 7, 8, 9] (fun u i _ _ wr => ∃ (t : Nat) (z : Int), t ≤ 1 ∧ z = 0 - t ∧ i = .int .i64 z ∧ Own8 wr B u (l ++ (be x 1).take t) ∧ Below B w wr) (fun _ i _ _ _ => (intOf i + 1).toNat)
  case atStart => exact ⟨0, 0, by omega, by omega, rfl, by simpa using HO.out, Below.refl _ _⟩
  case round =>
    obtain ⟨t, z, ht, hz, rfl, ho, hb⟩ := hrel
    obtain ⟨wo, rfl⟩ : ∃ wo : World, wo = wr := ⟨_, rfl⟩
    have HO2 := Lib.hid ho
    have HB := Lib.hid hb
    have hsz : B ≤ wo.heap.size := by have := hb.size; omega
    clear ho hb HO
    have hcases : t = 0 ∨ t = 1 := by omega
    rcases hcases with rfl | rfl
    · obtain rfl : z = 0 := by omega
      clear hz
      go_wp2
      go_loop [8, 9] (fun dv jv => ∃ (s : Nat) (d : Int), s ≤ 0 ∧ jv = .int .i64 (s : Int) ∧ dv = .int .i64 d ∧ 0 ≤ d ∧ d ≤ 4294967295 ∧ Hid (d = x / 256 ^ s)) (fun _ jv => 0 - (intOf jv).toNat)
      case atStart => exact ⟨0, x, by omega, rfl, rfl, h0, h1, Lib.hid (by simp)⟩
      case round =>
        obtain ⟨s, d, hs, rfl, rfl, hd0, hd1, hd⟩ := hrel
        by_cases hlt : s < 0
        · exact absurd hlt (by omega)
        · obtain rfl : s = 0 := by omega
          have hd2 : d % 256 = x / 256 ^ 0 % 256 := by rw [hd.out]
          have HD2 := Lib.hid hd2
          clear hd2 hd
          go_wp2_with (at_builtin; refine app_byte (.tmp 24) (.tmp 28) rfl rfl B _ _ rfl HO2.out rfl hsz (Lib.hid ?hl0) ?_)
          case hl0 => have := HL.out; simp [be_length]; omega
          intro v' w' hown hb2
          have HO3 := Lib.hid hown
          have HB3 := Lib.hid (HB.out.trans hb2)
          clear hown hb2
          go_wp2
          go_roundw
          case rel => exact ⟨1, -1, by omega, by omega, by first | rfl | go_num, by have := HO3.out; rw [HD2.out] at this; simpa [be, List.append_assoc] using this, HB3.out⟩
          case measure => simp [intOf]
    · obtain rfl : z = -1 := by omega
      clear hz
      go_wp2
      go_ret
      exact ⟨_, rfl, by have := HO2.out; simpa [be] using this, HB.out⟩

set_option maxRecDepth 100000 in
theorem number2 (v : Value) (l : List Int) (x : Int) (B : Nat) (w : World) (h0 : 0 ≤ x) (h1 : x ≤ 4294967295) (hB : B ≤ w.heap.size) (hO : Own8 w B v l) (hl : l.length + 2 ≤ reach) :
    Calls Try.prog 70 #[v, .int .i64 x, .int .i64 2] w fun e w' => ∃ v', e = .returned v' ∧ Own8 w' B v' (l ++ be x 2) ∧ Below B w w' := by
  have HO := Lib.hid hO; clear hO
  have HL := Lib.hid hl; clear hl
  go_enter Try.func70, Try.ntmps70
  go_wp2
  go_loopw [0, 7, 8, 9] (fun u i _ _ wr => ∃ (t : Nat) (z : Int), t ≤ 2 ∧ z = 1 - t ∧ i = .int .i64 z ∧ Own8 wr B u (l ++ (be x 2).take t) ∧ Below B w wr) (fun _ i _ _ _ => (intOf i + 1).toNat)
  case atStart => exact ⟨0, 1, by omega, by omega, rfl, by simpa using HO.out, Below.refl _ _⟩
  case round =>
    obtain ⟨t, z, ht, hz, rfl, ho, hb⟩ := hrel
    obtain ⟨wo, rfl⟩ : ∃ wo : World, wo = wr := ⟨_, rfl⟩
    have HO2 := Lib.hid ho
    have HB := Lib.hid hb
    have hsz : B ≤ wo.heap.size := by have := hb.size; omega
    clear ho hb HO
    have hcases : t = 0 ∨ t = 1 ∨ t = 2 := by omega
    rcases hcases with rfl | rfl | rfl
    · obtain rfl : z = 1 := by omega
      clear hz
      go_wp2
      go_loop [8, 9] (fun dv jv => ∃ (s : Nat) (d : Int), s ≤ 1 ∧ jv = .int .i64 (s : Int) ∧ dv = .int .i64 d ∧ 0 ≤ d ∧ d ≤ 4294967295 ∧ Hid (d = x / 256 ^ s)) (fun _ jv => 1 - (intOf jv).toNat)
      case atStart => exact ⟨0, x, by omega, rfl, rfl, h0, h1, Lib.hid (by simp)⟩
      case round =>
        obtain ⟨s, d, hs, rfl, rfl, hd0, hd1, hd⟩ := hrel
        by_cases hlt : s < 1
        · have hq : d.tdiv 256 = d / 256 := quo_pos d hd0
          go_wp2
          go_round
          case rel =>
            refine ⟨s + 1, d / 256, by omega, by go_num, rfl, by omega, by omega, Lib.hid ?_⟩
            rw [hd.out, Int.ediv_ediv_of_nonneg (Int.pow_nonneg (by decide)), Int.pow_succ]
          case measure => simp [intOf]; omega
        · obtain rfl : s = 1 := by omega
          have hd2 : d % 256 = x / 256 ^ 1 % 256 := by rw [hd.out]
          have HD2 := Lib.hid hd2
          clear hd2 hd
          go_wp2_with (at_builtin; refine app_byte (.tmp 24) (.tmp 28) rfl rfl B _ _ rfl HO2.out rfl hsz (Lib.hid ?hl0) ?_)
          case hl0 => have := HL.out; simp [be_length]; omega
          intro v' w' hown hb2
          have HO3 := Lib.hid hown
          have HB3 := Lib.hid (HB.out.trans hb2)
          clear hown hb2
          go_wp2
          go_roundw
          case rel => exact ⟨1, 0, by omega, by omega, by first | rfl | go_num, by have := HO3.out; rw [HD2.out] at this; simpa [be, List.append_assoc] using this, HB3.out⟩
          case measure => simp [intOf]
    · obtain rfl : z = 0 := by omega
      clear hz
      go_wp2
      go_loop [8, 9] (fun dv jv => ∃ (s : Nat) (d : Int), s ≤ 0 ∧ jv = .int .i64 (s : Int) ∧ dv = .int .i64 d ∧ 0 ≤ d ∧ d ≤ 4294967295 ∧ Hid (d = x / 256 ^ s)) (fun _ jv => 0 - (intOf jv).toNat)
      case atStart => exact ⟨0, x, by omega, rfl, rfl, h0, h1, Lib.hid (by simp)⟩
      case round =>
        obtain ⟨s, d, hs, rfl, rfl, hd0, hd1, hd⟩ := hrel
        by_cases hlt : s < 0
        · exact absurd hlt (by omega)
        · obtain rfl : s = 0 := by omega
          have hd2 : d % 256 = x / 256 ^ 0 % 256 := by rw [hd.out]
          have HD2 := Lib.hid hd2
          clear hd2 hd
          go_wp2_with (at_builtin; refine app_byte (.tmp 24) (.tmp 28) rfl rfl B _ _ rfl HO2.out rfl hsz (Lib.hid ?hl1) ?_)
          case hl1 => have := HL.out; simp [be_length]; omega
          intro v' w' hown hb2
          have HO3 := Lib.hid hown
          have HB3 := Lib.hid (HB.out.trans hb2)
          clear hown hb2
          go_wp2
          go_roundw
          case rel => exact ⟨2, -1, by omega, by omega, by first | rfl | go_num, by have := HO3.out; rw [HD2.out] at this; simpa [be, List.append_assoc] using this, HB3.out⟩
          case measure => simp [intOf]
    · obtain rfl : z = -1 := by omega
      clear hz
      go_wp2
      go_ret
      exact ⟨_, rfl, by have := HO2.out; simpa [be] using this, HB.out⟩

set_option maxRecDepth 100000 in
theorem number4 (v : Value) (l : List Int) (x : Int) (B : Nat) (w : World) (h0 : 0 ≤ x) (h1 : x ≤ 4294967295) (hB : B ≤ w.heap.size) (hO : Own8 w B v l) (hl : l.length + 4 ≤ reach) :
    Calls Try.prog 70 #[v, .int .i64 x, .int .i64 4] w fun e w' => ∃ v', e = .returned v' ∧ Own8 w' B v' (l ++ be x 4) ∧ Below B w w' := by
  have HO := Lib.hid hO; clear hO
  have HL := Lib.hid hl; clear hl
  go_enter Try.func70, Try.ntmps70
  go_wp2
  go_loopw [0, 7, 8, 9] (fun u i _ _ wr => ∃ (t : Nat) (z : Int), t ≤ 4 ∧ z = 3 - t ∧ i = .int .i64 z ∧ Own8 wr B u (l ++ (be x 4).take t) ∧ Below B w wr) (fun _ i _ _ _ => (intOf i + 1).toNat)
  case atStart => exact ⟨0, 3, by omega, by omega, rfl, by simpa using HO.out, Below.refl _ _⟩
  case round =>
    obtain ⟨t, z, ht, hz, rfl, ho, hb⟩ := hrel
    obtain ⟨wo, rfl⟩ : ∃ wo : World, wo = wr := ⟨_, rfl⟩
    have HO2 := Lib.hid ho
    have HB := Lib.hid hb
    have hsz : B ≤ wo.heap.size := by have := hb.size; omega
    clear ho hb HO
    have hcases : t = 0 ∨ t = 1 ∨ t = 2 ∨ t = 3 ∨ t = 4 := by omega
    rcases hcases with rfl | rfl | rfl | rfl | rfl
    · obtain rfl : z = 3 := by omega
      clear hz
      go_wp2
      go_loop [8, 9] (fun dv jv => ∃ (s : Nat) (d : Int), s ≤ 3 ∧ jv = .int .i64 (s : Int) ∧ dv = .int .i64 d ∧ 0 ≤ d ∧ d ≤ 4294967295 ∧ Hid (d = x / 256 ^ s)) (fun _ jv => 3 - (intOf jv).toNat)
      case atStart => exact ⟨0, x, by omega, rfl, rfl, h0, h1, Lib.hid (by simp)⟩
      case round =>
        obtain ⟨s, d, hs, rfl, rfl, hd0, hd1, hd⟩ := hrel
        by_cases hlt : s < 3
        · have hq : d.tdiv 256 = d / 256 := quo_pos d hd0
          go_wp2
          go_round
          case rel =>
            refine ⟨s + 1, d / 256, by omega, by go_num, rfl, by omega, by omega, Lib.hid ?_⟩
            rw [hd.out, Int.ediv_ediv_of_nonneg (Int.pow_nonneg (by decide)), Int.pow_succ]
          case measure => simp [intOf]; omega
        · obtain rfl : s = 3 := by omega
          have hd2 : d % 256 = x / 256 ^ 3 % 256 := by rw [hd.out]
          have HD2 := Lib.hid hd2
          clear hd2 hd
          go_wp2_with (at_builtin; refine app_byte (.tmp 24) (.tmp 28) rfl rfl B _ _ rfl HO2.out rfl hsz (Lib.hid ?hl0) ?_)
          case hl0 => have := HL.out; simp [be_length]; omega
          intro v' w' hown hb2
          have HO3 := Lib.hid hown
          have HB3 := Lib.hid (HB.out.trans hb2)
          clear hown hb2
          go_wp2
          go_roundw
          case rel => exact ⟨1, 2, by omega, by omega, by first | rfl | go_num, by have := HO3.out; rw [HD2.out] at this; simpa [be, List.append_assoc] using this, HB3.out⟩
          case measure => simp [intOf]
    · obtain rfl : z = 2 := by omega
      clear hz
      go_wp2
      go_loop [8, 9] (fun dv jv => ∃ (s : Nat) (d : Int), s ≤ 2 ∧ jv = .int .i64 (s : Int) ∧ dv = .int .i64 d ∧ 0 ≤ d ∧ d ≤ 4294967295 ∧ Hid (d = x / 256 ^ s)) (fun _ jv => 2 - (intOf jv).toNat)
      case atStart => exact ⟨0, x, by omega, rfl, rfl, h0, h1, Lib.hid (by simp)⟩
      case round =>
        obtain ⟨s, d, hs, rfl, rfl, hd0, hd1, hd⟩ := hrel
        by_cases hlt : s < 2
        · have hq : d.tdiv 256 = d / 256 := quo_pos d hd0
          go_wp2
          go_round
          case rel =>
            refine ⟨s + 1, d / 256, by omega, by go_num, rfl, by omega, by omega, Lib.hid ?_⟩
            rw [hd.out, Int.ediv_ediv_of_nonneg (Int.pow_nonneg (by decide)), Int.pow_succ]
          case measure => simp [intOf]; omega
        · obtain rfl : s = 2 := by omega
          have hd2 : d % 256 = x / 256 ^ 2 % 256 := by rw [hd.out]
          have HD2 := Lib.hid hd2
          clear hd2 hd
          go_wp2_with (at_builtin; refine app_byte (.tmp 24) (.tmp 28) rfl rfl B _ _ rfl HO2.out rfl hsz (Lib.hid ?hl1) ?_)
          case hl1 => have := HL.out; simp [be_length]; omega
          intro v' w' hown hb2
          have HO3 := Lib.hid hown
          have HB3 := Lib.hid (HB.out.trans hb2)
          clear hown hb2
          go_wp2
          go_roundw
          case rel => exact ⟨2, 1, by omega, by omega, by first | rfl | go_num, by have := HO3.out; rw [HD2.out] at this; simpa [be, List.append_assoc] using this, HB3.out⟩
          case measure => simp [intOf]
    · obtain rfl : z = 1 := by omega
      clear hz
      go_wp2
      go_loop [8, 9] (fun dv jv => ∃ (s : Nat) (d : Int), s ≤ 1 ∧ jv = .int .i64 (s : Int) ∧ dv = .int .i64 d ∧ 0 ≤ d ∧ d ≤ 4294967295 ∧ Hid (d = x / 256 ^ s)) (fun _ jv => 1 - (intOf jv).toNat)
      case atStart => exact ⟨0, x, by omega, rfl, rfl, h0, h1, Lib.hid (by simp)⟩
      case round =>
        obtain ⟨s, d, hs, rfl, rfl, hd0, hd1, hd⟩ := hrel
        by_cases hlt : s < 1
        · have hq : d.tdiv 256 = d / 256 := quo_pos d hd0
          go_wp2
          go_round
          case rel =>
            refine ⟨s + 1, d / 256, by omega, by go_num, rfl, by omega, by omega, Lib.hid ?_⟩
            rw [hd.out, Int.ediv_ediv_of_nonneg (Int.pow_nonneg (by decide)), Int.pow_succ]
          case measure => simp [intOf]; omega
        · obtain rfl : s = 1 := by omega
          have hd2 : d % 256 = x / 256 ^ 1 % 256 := by rw [hd.out]
          have HD2 := Lib.hid hd2
          clear hd2 hd
          go_wp2_with (at_builtin; refine app_byte (.tmp 24) (.tmp 28) rfl rfl B _ _ rfl HO2.out rfl hsz (Lib.hid ?hl2) ?_)
          case hl2 => have := HL.out; simp [be_length]; omega
          intro v' w' hown hb2
          have HO3 := Lib.hid hown
          have HB3 := Lib.hid (HB.out.trans hb2)
          clear hown hb2
          go_wp2
          go_roundw
          case rel => exact ⟨3, 0, by omega, by omega, by first | rfl | go_num, by have := HO3.out; rw [HD2.out] at this; simpa [be, List.append_assoc] using this, HB3.out⟩
          case measure => simp [intOf]
    · obtain rfl : z = 0 := by omega
      clear hz
      go_wp2
      go_loop [8, 9] (fun dv jv => ∃ (s : Nat) (d : Int), s ≤ 0 ∧ jv = .int .i64 (s : Int) ∧ dv = .int .i64 d ∧ 0 ≤ d ∧ d ≤ 4294967295 ∧ Hid (d = x / 256 ^ s)) (fun _ jv => 0 - (intOf jv).toNat)
      case atStart => exact ⟨0, x, by omega, rfl, rfl, h0, h1, Lib.hid (by simp)⟩
      case round =>
        obtain ⟨s, d, hs, rfl, rfl, hd0, hd1, hd⟩ := hrel
        by_cases hlt : s < 0
        · exact absurd hlt (by omega)
        · obtain rfl : s = 0 := by omega
          have hd2 : d % 256 = x / 256 ^ 0 % 256 := by rw [hd.out]
          have HD2 := Lib.hid hd2
          clear hd2 hd
          go_wp2_with (at_builtin; refine app_byte (.tmp 24) (.tmp 28) rfl rfl B _ _ rfl HO2.out rfl hsz (Lib.hid ?hl3) ?_)
          case hl3 => have := HL.out; simp [be_length]; omega
          intro v' w' hown hb2
          have HO3 := Lib.hid hown
          have HB3 := Lib.hid (HB.out.trans hb2)
          clear hown hb2
          go_wp2
          go_roundw
          case rel => exact ⟨4, -1, by omega, by omega, by first | rfl | go_num, by have := HO3.out; rw [HD2.out] at this; simpa [be, List.append_assoc] using this, HB3.out⟩
          case measure => simp [intOf]
    · obtain rfl : z = -1 := by omega
      clear hz
      go_wp2
      go_ret
      exact ⟨_, rfl, by have := HO2.out; simpa [be] using this, HB.out⟩
end Go.Proofs.Ytkbboepopcebaaa
namespace Go.Proofs.Ytkbboepopcebaaa
open Go.RowKit

theorem infoI : (Try.prog.info? 3).map (fun i => (i.zero, i.size, i.bytes)) = some (some (.int .i64 0), 1, 8) := by kernel_rfl
theorem own_lit (w : World) (cs : Array Value) (e : TypeId) (n : Nat) (h : cs.size = n) (hm : n ≤ maxLen) : (w.alloc (.cells cs e)).ownsRow w.heap.size e 1 (.slice (some ⟨w.heap.size, 0, none⟩) n n) n cs.toList := by
  refine ⟨by simp [h], .inr ⟨w.heap.size, n, cs, rfl, Nat.le_refl _, heap_alloc_new w _, Nat.le_refl _, hm, by simp [h], ?_⟩⟩
  rw [List.take_of_length_le (by simp [h])]

def lens (ll : List (List Int)) : List Int := ll.map fun l => (l.length : Int)
theorem lens_length (ll : List (List Int)) : (lens ll).length = ll.length := by simp [lens]
theorem lens_get (ll : List (List Int)) (k : Nat) (h : k < ll.length) : (lens ll).getD k 0 = ((ll.getD k []).length : Int) := by
  simp [lens, List.getD_eq_getElem?_getD, h]

set_option maxRecDepth 100000 in
theorem lengths_any (A : Option Addr) (c n : Nat) (ll : List (List Int)) (w : World) (hn : ll.length = n) (hf : n ≤ 4294967296) (h : PartsR w A ll) :
    Calls Try.prog 69 #[.slice A n c] w fun e w' => ∃ v', e = .returned v' ∧ w'.ownsRow w.heap.size 3 1 v' n (nums .i64 (lens ll)) ∧ Below w.heap.size w w' := by
  obtain ⟨i0, hi, hz0, hz1, hz2⟩ := info_parts infoI
  have HN := Lib.hid hn; clear hn
  have HP := Lib.hid h; clear h
  go_enter Try.func69, Try.ntmps69
  go_wp2
  go_loopw [3, 4] (fun v i wr => ∃ k : Nat, k ≤ n ∧ i = .int .i64 k ∧ wr.ownsRow w.heap.size 3 1 v k (nums .i64 ((lens ll).take k)) ∧ Below w.heap.size w wr) (fun _ i _ => n - (intOf i).toNat)
  case atStart => exact ⟨0, Nat.zero_le _, rfl, World.ownsRow_nil _ _ _ _, Below.refl _ _⟩
  case round =>
    obtain ⟨k, hk, rfl, hO, hb⟩ := hrel
    by_cases hlt : k < n
    · have hk2 : k < ll.length := by have := HN.out; omega
      obtain ⟨b1, o1, rfl, hc⟩ := (HP.out.mono hb).2 (by omega)
      obtain ⟨p, hcell, A1, c1, rfl, _, _, _⟩ := hc k hk2
      have hst := take_snoc' (lens ll) k 0 (by rw [lens_length]; exact hk2)
      rw [lens_get ll k hk2] at hst
      obtain ⟨m, hm⟩ : ∃ m, m = (ll.getD k []).length := ⟨_, rfl⟩
      rw [← hm] at hcell hst
      have HST := Lib.hid hst
      have HB := Lib.hid hb
      have HO := Lib.hid (hO.alloc (.cells #[.int .i64 m] 3))
      clear hc hst hm hO hb
      go_wp2_with (at_builtin; refine wpList_append_own _ rfl _ _ 41 rfl w.heap.size 3 i0 (.int .i64 0) 1 8 Try.underlying41 hi hz0 hz1 hz2 rfl (by decide) _ _ _ rfl HO.out ⟨wr.heap.size, 0, none⟩ 1 1 [.int .i64 m] rfl rfl ?c1 ?c2 ?c3 ?c4 ?c5 ?_)
      case c1 =>
        intro j u hj
        match j, hj with
        | 0, hj => simp at hj; subst hj; simp [Addr.add]
      case c2 => intro u hu; simp at hu; subst hu; rfl
      case c3 => unfold maxLen; omega
      case c4 => omega
      case c5 => have h1 := HB.out.size; simp; omega
      intro v' w2 hown hg _
      have HO2 : Hid (w2.ownsRow w.heap.size 3 1 v' (k + 1) (nums .i64 ((lens ll).take (k + 1)))) := by
        rw [HST.out, nums_append]
        exact hown
      have HB2 := Lib.hid ((below_step HB.out (below_alloc _ _)).grown hg (by have h1 := HB.out.size; simp; omega) (fun k hk => own_ge HO.out k hk))
      clear hown hg
      go_wp2
      go_roundw
      case rel => exact ⟨k + 1, by omega, by go_num, HO2.out, HB2.out⟩
      case measure => exact own_meas hlt
    · go_wp2
      go_ret
      have hkn : k = n := by omega
      rw [hkn, List.take_of_length_le (by rw [lens_length]; have := HN.out; omega)] at hO
      exact ⟨_, rfl, hO, hb⟩

theorem room {w : World} {B : Nat} {v : Value} {l : List Int} (_ : Hid (Own8 w B v l)) (hl : l.length + 1 ≤ reach) : Hid (l.length + 1 ≤ reach) := hl
theorem flat_length (l : List Int) (s : Nat) : (l.flatMap fun x => be x s).length = l.length * s := by
  induction l with
  | nil => simp
  | cons a r ih => simp only [List.flatMap_cons, List.length_append, be_length, ih, List.length_cons, Nat.add_mul]; omega
theorem flat_snoc (l : List Int) (s k : Nat) (h : k < l.length) : ((l.take (k + 1)).flatMap fun x => be x s) = ((l.take k).flatMap fun x => be x s) ++ be (l.getD k 0) s := by
  rw [take_snoc' l k 0 h]; simp
def part3 (sl : List Int) : List Int := if sl.length = 0 then [] else [3] ++ be sl.length 2 ++ (sl.flatMap fun x => be x 4)
def headB (cl sl : List Int) (size : Int) : List Int :=
  [239, 0, 1, 1] ++ be (4 * (cl.length : Int)) 2 ++ [2] ++ be cl.length 2 ++ (cl.flatMap fun x => be x 2) ++ part3 sl ++ [255] ++ be size 2 ++ [0]

set_option maxRecDepth 100000 in
set_option maxHeartbeats 1600000 in
theorem head_any (A0 A1 : Option Addr) (c0 c1 n m : Nat) (cl sl : List Int) (size : Int) (w : World) (hn : cl.length = n) (hm : sl.length = m) (g1 : n ≤ 1024) (g2 : m ≤ 256) (s0 : 0 ≤ size) (s1 : size ≤ 65535)
    (hcl : ∀ k, k < n → 0 ≤ cl.getD k 0 ∧ cl.getD k 0 ≤ 65535) (hsl : ∀ k, k < m → 0 ≤ sl.getD k 0 ∧ sl.getD k 0 ≤ 4294967295) (h0 : NumsR w .i64 A0 cl) (h1 : NumsR w .i64 A1 sl) :
    Calls Try.prog 68 #[.slice A0 n c0, .slice A1 m c1, .int .i64 size] w fun e w' => ∃ v', e = .returned v' ∧ Own8 w' w.heap.size v' (headB cl sl size) ∧ Below w.heap.size w w' := by
  have HN := Lib.hid hn; clear hn
  have HM := Lib.hid hm; clear hm
  have HCL := Lib.hid hcl; clear hcl
  have HSL := Lib.hid hsl; clear hsl
  have H0 := Lib.hid h0; clear h0
  have H1 := Lib.hid h1; clear h1
  have HO0 : Hid (Own8 (w.alloc (.cells #[.int .u8 239, .int .u8 0, .int .u8 1, .int .u8 1] 5)) w.heap.size (.slice (some ⟨w.heap.size, 0, none⟩) 4 4) [239, 0, 1, 1]) := own_lit w _ 5 4 rfl (by simp [maxLen])
  have HB0 : Hid (Below w.heap.size w (w.alloc (.cells #[.int .u8 239, .int .u8 0, .int .u8 1, .int .u8 1] 5))) := below_alloc _ _
  go_enter Try.func68, Try.ntmps68
  go_wp2_with fail
  refine (number2 _ _ _ w.heap.size _ (by omega) (by omega) (by simp) HO0.out (by have := HN.out; have := HM.out; simp only [List.length_append, be_length, List.length_cons, List.length_nil, flat_length, List.length_take]; unfold reach; omega)).mono ?_
  rintro e w1 ⟨v1, rfl, ho, hb⟩
  have HO1 := Lib.hid ho
  have HB1 := Lib.hid (HB0.out.trans hb)
  clear ho hb
  have HR2 := room HO1 (by have := HN.out; have := HM.out; simp only [List.length_append, be_length, List.length_cons, List.length_nil, flat_length, List.length_take]; unfold reach; omega)
  go_wp2_with (at_builtin; refine app_byte (.tmp 16) (.tmp 17) rfl rfl w.heap.size _ _ rfl HO1 rfl (by have := HB1.out.size; omega) HR2 ?_)
  intro v2 w2 ho hb
  have HO2 := Lib.hid ho
  have HB2 := Lib.hid (HB1.out.trans hb)
  clear ho hb
  go_wp2_with fail
  refine (number2 _ _ _ w.heap.size _ (by omega) (by omega) (by have := HB2.out.size; omega) HO2.out (by have := HN.out; have := HM.out; simp only [List.length_append, be_length, List.length_cons, List.length_nil, flat_length, List.length_take]; unfold reach; omega)).mono ?_
  rintro e w3 ⟨v3, rfl, ho, hb⟩
  have HO3 := Lib.hid ho
  have HB3 := Lib.hid (HB2.out.trans hb)
  clear ho hb
  go_wp2
  go_loopw [7, 8] (fun v i wr => ∃ k : Nat, k ≤ n ∧ i = .int .i64 k ∧ Own8 wr w.heap.size v ([239, 0, 1, 1] ++ be (4 * (n : Int)) 2 ++ [2] ++ be n 2 ++ ((cl.take k).flatMap fun x => be x 2)) ∧ Below w.heap.size w wr) (fun _ i _ => n - (intOf i).toNat)
  case atStart => exact ⟨0, Nat.zero_le _, rfl, by have := HO3.out; simpa using this, HB3.out⟩
  case round =>
    obtain ⟨k, hk, rfl, ho, hb⟩ := hrel
    have HO4 := Lib.hid ho
    have HB4 := Lib.hid hb
    clear ho hb HO0 HO1 HO2 HO3
    by_cases hlt : k < n
    · have hx := HCL.out k hlt
      have hst := flat_snoc cl 2 k (by have := HN.out; omega)
      obtain ⟨b1, o1, rfl, hc⟩ := (H0.out.mono HB4.out).2 (by have := HN.out; omega)
      have hcell := hc k (by have := HN.out; omega)
      obtain ⟨x, hxx⟩ : ∃ x, x = cl.getD k 0 := ⟨_, rfl⟩
      rw [← hxx] at hcell hx hst
      obtain ⟨hx0, hx1⟩ := hx
      have HST := Lib.hid hst
      clear hc hxx hst
      go_wp2_with fail
      refine (number2 _ _ _ w.heap.size _ (by omega) (by omega) (by have := HB4.out.size; omega) HO4.out (by have := HN.out; have := HM.out; simp only [List.length_append, be_length, List.length_cons, List.length_nil, flat_length, List.length_take]; unfold reach; omega)).mono ?_
      rintro e w5 ⟨v5, rfl, ho, hb⟩
      have HO5 := Lib.hid ho
      have HB5 := Lib.hid (HB4.out.trans hb)
      clear ho hb
      go_wp2
      go_roundw
      case rel => exact ⟨k + 1, by omega, by go_num, by have := HO5.out; rw [HST.out]; simpa [List.append_assoc] using this, HB5.out⟩
      case measure => exact own_meas hlt
    · obtain rfl : k = n := by omega
      have ho5 := HO4.out
      rw [List.take_of_length_le (by have := HN.out; omega)] at ho5
      have HO5 := Lib.hid ho5
      clear HO4 ho5
      by_cases hm0 : m = 0
      · have HM0 := Lib.hid hm0
        subst hm0
        have HR6 := room HO5 (by have := HN.out; have := HM.out; simp only [List.length_append, be_length, List.length_cons, List.length_nil, flat_length, List.length_take]; unfold reach; omega)
        go_wp2_with (at_builtin; refine app_byte (.tmp 57) (.tmp 58) rfl rfl w.heap.size _ _ rfl HO5 rfl (by have := HB4.out.size; omega) HR6 ?_)
        intro v6 w6 ho hb
        have HO6 := Lib.hid ho
        have HB6 := Lib.hid (HB4.out.trans hb)
        clear ho hb
        go_wp2_with fail
        refine (number2 _ _ _ w.heap.size _ (by omega) (by omega) (by have := HB6.out.size; omega) HO6.out (by have := HN.out; have := HM.out; simp only [List.length_append, be_length, List.length_cons, List.length_nil, flat_length, List.length_take]; unfold reach; omega)).mono ?_
        rintro e w7 ⟨v7, rfl, ho, hb⟩
        have HO7 := Lib.hid ho
        have HB7 := Lib.hid (HB6.out.trans hb)
        clear ho hb
        have HR8 := room HO7 (by have := HN.out; have := HM.out; simp only [List.length_append, be_length, List.length_cons, List.length_nil, flat_length, List.length_take]; unfold reach; omega)
        go_wp2_with (at_builtin; refine app_byte (.tmp 63) (.tmp 64) rfl rfl w.heap.size _ _ rfl HO7 rfl (by have := HB7.out.size; omega) HR8 ?_)
        intro v8 w8 ho hb
        have HO8 := Lib.hid ho
        have HB8 := Lib.hid (HB7.out.trans hb)
        clear ho hb
        go_wp2
        go_ret
        refine ⟨v8, rfl, ?_, HB8.out⟩
        have := HO8.out
        have e : headB cl sl size = [239, 0, 1, 1] ++ be (4 * (k : Int)) 2 ++ [2] ++ be k 2 ++ (cl.flatMap fun x => be x 2) ++ [255] ++ be size 2 ++ [0] := by
          rw [headB, HN.out, part3, if_pos HM.out, List.append_nil]
        rw [e]
        simpa only [List.append_assoc, List.cons_append, List.nil_append] using this
      · have hm1 : (0 : Int) < m := by omega
        have HR6 := room HO5 (by have := HN.out; have := HM.out; simp only [List.length_append, be_length, List.length_cons, List.length_nil, flat_length, List.length_take]; unfold reach; omega)
        go_wp2_with (at_builtin; refine app_byte (.tmp 38) (.tmp 39) rfl rfl w.heap.size _ _ rfl HO5 rfl (by have := HB4.out.size; omega) HR6 ?_)
        intro v6 w6 ho hb
        have HO6 := Lib.hid ho
        have HB6 := Lib.hid (HB4.out.trans hb)
        clear ho hb
        go_wp2_with fail
        refine (number2 _ _ _ w.heap.size _ (by omega) (by omega) (by have := HB6.out.size; omega) HO6.out (by have := HN.out; have := HM.out; simp only [List.length_append, be_length, List.length_cons, List.length_nil, flat_length, List.length_take]; unfold reach; omega)).mono ?_
        rintro e w7 ⟨v7, rfl, ho, hb⟩
        have HO7 := Lib.hid ho
        have HB7 := Lib.hid (HB6.out.trans hb)
        clear ho hb
        go_wp2
        go_loopw [7, 9] (fun v i wr => ∃ j : Nat, j ≤ m ∧ i = .int .i64 j ∧ Own8 wr w.heap.size v ([239, 0, 1, 1] ++ be (4 * (k : Int)) 2 ++ [2] ++ be k 2 ++ (cl.flatMap fun x => be x 2) ++ [3] ++ be m 2 ++ ((sl.take j).flatMap fun x => be x 4)) ∧ Below w.heap.size w wr) (fun _ i _ => m - (intOf i).toNat)
        case atStart => exact ⟨0, Nat.zero_le _, rfl, by have := HO7.out; simpa using this, HB7.out⟩
        case round =>
          obtain ⟨j, hj, rfl, ho, hb⟩ := hrel
          have HO8 := Lib.hid ho
          have HB8 := Lib.hid hb
          clear ho hb HO5 HO6 HO7
          by_cases hlj : j < m
          · have hx := HSL.out j hlj
            have hst := flat_snoc sl 4 j (by have := HM.out; omega)
            obtain ⟨b1, o1, rfl, hc⟩ := (H1.out.mono HB8.out).2 (by have := HM.out; omega)
            have hcell := hc j (by have := HM.out; omega)
            obtain ⟨x, hxx⟩ : ∃ x, x = sl.getD j 0 := ⟨_, rfl⟩
            rw [← hxx] at hcell hx hst
            obtain ⟨hx0, hx1⟩ := hx
            have HST := Lib.hid hst
            clear hc hxx hst
            go_wp2_with fail
            refine (number4 _ _ _ w.heap.size _ (by omega) (by omega) (by have := HB8.out.size; omega) HO8.out (by have := HN.out; have := HM.out; simp only [List.length_append, be_length, List.length_cons, List.length_nil, flat_length, List.length_take]; unfold reach; omega)).mono ?_
            rintro e w9 ⟨v9, rfl, ho, hb⟩
            have HO9 := Lib.hid ho
            have HB9 := Lib.hid (HB8.out.trans hb)
            clear ho hb
            go_wp2
            go_roundw
            case rel => exact ⟨j + 1, by omega, by go_num, by have := HO9.out; rw [HST.out]; simpa [List.append_assoc] using this, HB9.out⟩
            case measure => exact own_meas hlj
          · obtain rfl : j = m := by omega
            have ho9 := HO8.out
            rw [List.take_of_length_le (by have := HM.out; omega)] at ho9
            have HO9 := Lib.hid ho9
            clear HO8 ho9
            have HR10 := room HO9 (by have := HN.out; have := HM.out; simp only [List.length_append, be_length, List.length_cons, List.length_nil, flat_length, List.length_take]; unfold reach; omega)
            go_wp2_with (at_builtin; refine app_byte (.tmp 57) (.tmp 58) rfl rfl w.heap.size _ _ rfl HO9 rfl (by have := HB8.out.size; omega) HR10 ?_)
            intro v10 w10 ho hb
            have HO10 := Lib.hid ho
            have HB10 := Lib.hid (HB8.out.trans hb)
            clear ho hb
            go_wp2_with fail
            refine (number2 _ _ _ w.heap.size _ (by omega) (by omega) (by have := HB10.out.size; omega) HO10.out (by have := HN.out; have := HM.out; simp only [List.length_append, be_length, List.length_cons, List.length_nil, flat_length, List.length_take]; unfold reach; omega)).mono ?_
            rintro e w11 ⟨v11, rfl, ho, hb⟩
            have HO11 := Lib.hid ho
            have HB11 := Lib.hid (HB10.out.trans hb)
            clear ho hb
            have HR12 := room HO11 (by have := HN.out; have := HM.out; simp only [List.length_append, be_length, List.length_cons, List.length_nil, flat_length, List.length_take]; unfold reach; omega)
            go_wp2_with (at_builtin; refine app_byte (.tmp 63) (.tmp 64) rfl rfl w.heap.size _ _ rfl HO11 rfl (by have := HB11.out.size; omega) HR12 ?_)
            intro v12 w12 ho hb
            have HO12 := Lib.hid ho
            have HB12 := Lib.hid (HB11.out.trans hb)
            clear ho hb
            go_wp2
            go_ret
            refine ⟨v12, rfl, ?_, HB12.out⟩
            have := HO12.out
            have e : headB cl sl size = [239, 0, 1, 1] ++ be (4 * (k : Int)) 2 ++ [2] ++ be k 2 ++ (cl.flatMap fun x => be x 2) ++ [3] ++ be j 2 ++ (sl.flatMap fun x => be x 4) ++ [255] ++ be size 2 ++ [0] := by
              rw [headB, HN.out, part3, if_neg (by have := HM.out; omega), HM.out]
              simp only [List.append_assoc]
            rw [e]
            simpa only [List.append_assoc, List.cons_append, List.nil_append] using this
end Go.Proofs.Ytkbboepopcebaaa
