/- put and number: a number in so many bytes, behind a row of the call's own. -/
import Derived.Test.YtkbboepopcebaaaI
import Derived.Test.YtkbboepopcebaaaQ
namespace Go.Proofs.Ytkbboepopcebaaa
open Go.RowKit
theorem quo_pos (x : Int) (h : 0 ≤ x) : x.tdiv 256 = x / 256 := Int.tdiv_eq_ediv_of_nonneg h

set_option maxRecDepth 100000 in
theorem put2 (v : Value) (l : List Int) (x : Int) (B : Nat) (w : World) (h0 : 0 ≤ x) (h1 : x ≤ 4294967295) (hB : B ≤ w.heap.size) (hO : Own8 w B v l) (hl : l.length + 2 ≤ reach) :
    Calls Try.prog 49 #[v, .int .i64 x, .int .i64 2] w fun e w' => ∃ v', e = .returned v' ∧ Own8 w' B v' (l ++ be x 2) ∧ Below B w w' := by
  have HO := Lib.hid hO; clear hO
  have HL := Lib.hid hl; clear hl
  go_enter Try.func49, Try.ntmps49
  go_wp2
  go_loopw [0, 2] (fun u i wr => ∃ (t : Nat) (z : Int), t ≤ 2 ∧ z = 1 - t ∧ i = .int .i64 z ∧ Own8 wr B u (l ++ (be x 2).take t) ∧ Below B w wr) (fun _ i _ => (intOf i + 1).toNat)
  case atStart => exact ⟨0, 1, by omega, by omega, rfl, by simpa using HO.out, Below.refl _ _⟩
  case round =>
    obtain ⟨t, z, ht, hz, rfl, ho, hb⟩ := hrel
    have HO2 := Lib.hid ho
    have HB := Lib.hid hb
    have hsz : B ≤ wr.heap.size := by have := hb.size; omega
    clear ho hb HO
    have hcases : t = 0 ∨ t = 1 ∨ t = 2 := by omega
    rcases hcases with rfl | rfl | rfl
    · obtain rfl : z = 1 := by omega
      clear hz
      go_wp2_with (at_builtin; refine app_byte (.tmp 13) (.tmp 19) rfl rfl B _ _ rfl HO2.out rfl hsz (Lib.hid ?hl0) ?_)
      case hl0 => have := HL.out; simp [be_length]; omega
      intro v' w' hown hb2
      have HO3 := Lib.hid hown
      have HB3 := Lib.hid (HB.out.trans hb2)
      clear hown hb2
      go_wp2
      go_roundw
      case rel => exact ⟨1, 0, by omega, by omega, by first | rfl | go_num, by have := HO3.out; first | simpa [be, List.append_assoc] using this | (have e : x / 16777216 % 256 = x / 16777216 := (by omega); simpa [be, e, List.append_assoc] using this), HB3.out⟩
      case measure => simp [intOf]
    · obtain rfl : z = 0 := by omega
      clear hz
      go_wp2_with (at_builtin; refine app_byte (.tmp 13) (.tmp 19) rfl rfl B _ _ rfl HO2.out rfl hsz (Lib.hid ?hl1) ?_)
      case hl1 => have := HL.out; simp [be_length]; omega
      intro v' w' hown hb2
      have HO3 := Lib.hid hown
      have HB3 := Lib.hid (HB.out.trans hb2)
      clear hown hb2
      go_wp2
      go_roundw
      case rel => exact ⟨2, -1, by omega, by omega, by first | rfl | go_num, by have := HO3.out; first | simpa [be, List.append_assoc] using this | (have e : x / 16777216 % 256 = x / 16777216 := (by omega); simpa [be, e, List.append_assoc] using this), HB3.out⟩
      case measure => simp [intOf]
    · obtain rfl : z = -1 := by omega
      clear hz
      go_wp2
      go_ret
      exact ⟨_, rfl, by have := HO2.out; simpa [be] using this, HB.out⟩

set_option maxRecDepth 100000 in
theorem put4 (v : Value) (l : List Int) (x : Int) (B : Nat) (w : World) (h0 : 0 ≤ x) (h1 : x ≤ 4294967295) (hB : B ≤ w.heap.size) (hO : Own8 w B v l) (hl : l.length + 4 ≤ reach) :
    Calls Try.prog 49 #[v, .int .i64 x, .int .i64 4] w fun e w' => ∃ v', e = .returned v' ∧ Own8 w' B v' (l ++ be x 4) ∧ Below B w w' := by
  have HO := Lib.hid hO; clear hO
  have HL := Lib.hid hl; clear hl
  go_enter Try.func49, Try.ntmps49
  go_wp2
  go_loopw [0, 2] (fun u i wr => ∃ (t : Nat) (z : Int), t ≤ 4 ∧ z = 3 - t ∧ i = .int .i64 z ∧ Own8 wr B u (l ++ (be x 4).take t) ∧ Below B w wr) (fun _ i _ => (intOf i + 1).toNat)
  case atStart => exact ⟨0, 3, by omega, by omega, rfl, by simpa using HO.out, Below.refl _ _⟩
  case round =>
    obtain ⟨t, z, ht, hz, rfl, ho, hb⟩ := hrel
    have HO2 := Lib.hid ho
    have HB := Lib.hid hb
    have hsz : B ≤ wr.heap.size := by have := hb.size; omega
    clear ho hb HO
    have hcases : t = 0 ∨ t = 1 ∨ t = 2 ∨ t = 3 ∨ t = 4 := by omega
    rcases hcases with rfl | rfl | rfl | rfl | rfl
    · obtain rfl : z = 3 := by omega
      clear hz
      go_wp2_with (at_builtin; refine app_byte (.tmp 13) (.tmp 19) rfl rfl B _ _ rfl HO2.out rfl hsz (Lib.hid ?hl0) ?_)
      case hl0 => have := HL.out; simp [be_length]; omega
      intro v' w' hown hb2
      have HO3 := Lib.hid hown
      have HB3 := Lib.hid (HB.out.trans hb2)
      clear hown hb2
      go_wp2
      go_roundw
      case rel => exact ⟨1, 2, by omega, by omega, by first | rfl | go_num, by have := HO3.out; first | simpa [be, List.append_assoc] using this | (have e : x / 16777216 % 256 = x / 16777216 := (by omega); simpa [be, e, List.append_assoc] using this), HB3.out⟩
      case measure => simp [intOf]
    · obtain rfl : z = 2 := by omega
      clear hz
      go_wp2_with (at_builtin; refine app_byte (.tmp 13) (.tmp 19) rfl rfl B _ _ rfl HO2.out rfl hsz (Lib.hid ?hl1) ?_)
      case hl1 => have := HL.out; simp [be_length]; omega
      intro v' w' hown hb2
      have HO3 := Lib.hid hown
      have HB3 := Lib.hid (HB.out.trans hb2)
      clear hown hb2
      go_wp2
      go_roundw
      case rel => exact ⟨2, 1, by omega, by omega, by first | rfl | go_num, by have := HO3.out; first | simpa [be, List.append_assoc] using this | (have e : x / 16777216 % 256 = x / 16777216 := (by omega); simpa [be, e, List.append_assoc] using this), HB3.out⟩
      case measure => simp [intOf]
    · obtain rfl : z = 1 := by omega
      clear hz
      go_wp2_with (at_builtin; refine app_byte (.tmp 13) (.tmp 19) rfl rfl B _ _ rfl HO2.out rfl hsz (Lib.hid ?hl2) ?_)
      case hl2 => have := HL.out; simp [be_length]; omega
      intro v' w' hown hb2
      have HO3 := Lib.hid hown
      have HB3 := Lib.hid (HB.out.trans hb2)
      clear hown hb2
      go_wp2
      go_roundw
      case rel => exact ⟨3, 0, by omega, by omega, by first | rfl | go_num, by have := HO3.out; first | simpa [be, List.append_assoc] using this | (have e : x / 16777216 % 256 = x / 16777216 := (by omega); simpa [be, e, List.append_assoc] using this), HB3.out⟩
      case measure => simp [intOf]
    · obtain rfl : z = 0 := by omega
      clear hz
      go_wp2_with (at_builtin; refine app_byte (.tmp 13) (.tmp 19) rfl rfl B _ _ rfl HO2.out rfl hsz (Lib.hid ?hl3) ?_)
      case hl3 => have := HL.out; simp [be_length]; omega
      intro v' w' hown hb2
      have HO3 := Lib.hid hown
      have HB3 := Lib.hid (HB.out.trans hb2)
      clear hown hb2
      go_wp2
      go_roundw
      case rel => exact ⟨4, -1, by omega, by omega, by first | rfl | go_num, by have := HO3.out; first | simpa [be, List.append_assoc] using this | (have e : x / 16777216 % 256 = x / 16777216 := (by omega); simpa [be, e, List.append_assoc] using this), HB3.out⟩
      case measure => simp [intOf]
    · obtain rfl : z = -1 := by omega
      clear hz
      go_wp2
      go_ret
      exact ⟨_, rfl, by have := HO2.out; simpa [be] using this, HB.out⟩

set_option maxRecDepth 100000 in
theorem number1 (v : Value) (l : List Int) (x : Int) (B : Nat) (w : World) (h0 : 0 ≤ x) (h1 : x ≤ 4294967295) (hB : B ≤ w.heap.size) (hO : Own8 w B v l) (hl : l.length + 1 ≤ reach) :
    Calls Try.prog 70 #[v, .int .i64 x, .int .i64 1] w fun e w' => ∃ v', e = .returned v' ∧ Own8 w' B v' (l ++ be x 1) ∧ Below B w w' := by
  have HO := Lib.hid hO; clear hO
  have HL := Lib.hid hl; clear hl
  go_enter Try.func70, Try.ntmps70
  go_wp2
  go_loopw [0, 7, 8, 9] (fun u i _ _ wr => ∃ (t : Nat) (z : Int), t ≤ 1 ∧ z = 0 - t ∧ i = .int .i64 z ∧ Own8 wr B u (l ++ (be x 1).take t) ∧ Below B w wr) (fun _ i _ _ _ => (intOf i + 1).toNat)
  case atStart => exact ⟨0, 0, by omega, by omega, rfl, by simpa using HO.out, Below.refl _ _⟩
  case round =>
    obtain ⟨t, z, ht, hz, rfl, ho, hb⟩ := hrel
    obtain ⟨wo, rfl⟩ : ∃ wo : World, wo = wr := ⟨_, rfl⟩
    have HO2 := Lib.hid ho
    have HB := Lib.hid hb
    have hsz : B ≤ wo.heap.size := by have := hb.size; omega
    clear ho hb HO
    have hcases : t = 0 ∨ t = 1 := by omega
    rcases hcases with rfl | rfl
    · obtain rfl : z = 0 := by omega
      clear hz
      go_wp2
      go_loop [8, 9] (fun dv jv => ∃ (s : Nat) (d : Int), s ≤ 0 ∧ jv = .int .i64 (s : Int) ∧ dv = .int .i64 d ∧ 0 ≤ d ∧ d ≤ 4294967295 ∧ Hid (d = x / 256 ^ s)) (fun _ jv => 0 - (intOf jv).toNat)
      case atStart => exact ⟨0, x, by omega, rfl, rfl, h0, h1, Lib.hid (by simp)⟩
      case round =>
        obtain ⟨s, d, hs, rfl, rfl, hd0, hd1, hd⟩ := hrel
        by_cases hlt : s < 0
        · exact absurd hlt (by omega)
        · obtain rfl : s = 0 := by omega
          have hd2 : d % 256 = x / 256 ^ 0 % 256 := by rw [hd.out]
          have HD2 := Lib.hid hd2
          clear hd2 hd
          go_wp2_with (at_builtin; refine app_byte (.tmp 24) (.tmp 28) rfl rfl B _ _ rfl HO2.out rfl hsz (Lib.hid ?hl0) ?_)
          case hl0 => have := HL.out; simp [be_length]; omega
          intro v' w' hown hb2
          have HO3 := Lib.hid hown
          have HB3 := Lib.hid (HB.out.trans hb2)
          clear hown hb2
          go_wp2
          go_roundw
          case rel => exact ⟨1, -1, by omega, by omega, by first | rfl | go_num, by have := HO3.out; rw [HD2.out] at this; simpa [be, List.append_assoc] using this, HB3.out⟩
          case measure => simp [intOf]
    · obtain rfl : z = -1 := by omega
      clear hz
      go_wp2
      go_ret
      exact ⟨_, rfl, by have := HO2.out; simpa [be] using this, HB.out⟩

set_option maxRecDepth 100000 in
theorem number2 (v : Value) (l : List Int) (x : Int) (B : Nat) (w : World) (h0 : 0 ≤ x) (h1 : x ≤ 4294967295) (hB : B ≤ w.heap.size) (hO : Own8 w B v l) (hl : l.length + 2 ≤ reach) :
    Calls Try.prog 70 #[v, .int .i64 x, .int .i64 2] w fun e w' => ∃ v', e = .returned v' ∧ Own8 w' B v' (l ++ be x 2) ∧ Below B w w' := by
  have HO := Lib.hid hO; clear hO
  have HL := Lib.hid hl; clear hl
  go_enter Try.func70, Try.ntmps70
  go_wp2
  go_loopw [0, 7, 8, 9] (fun u i _ _ wr => ∃ (t : Nat) (z : Int), t ≤ 2 ∧ z = 1 - t ∧ i = .int .i64 z ∧ Own8 wr B u (l ++ (be x 2).take t) ∧ Below B w wr) (fun _ i _ _ _ => (intOf i + 1).toNat)
  case atStart => exact ⟨0, 1, by omega, by omega, rfl, by simpa using HO.out, Below.refl _ _⟩
  case round =>
    obtain ⟨t, z, ht, hz, rfl, ho, hb⟩ := hrel
    obtain ⟨wo, rfl⟩ : ∃ wo : World, wo = wr := ⟨_, rfl⟩
    have HO2 := Lib.hid ho
    have HB := Lib.hid hb
    have hsz : B ≤ wo.heap.size := by have := hb.size; omega
    clear ho hb HO
    have hcases : t = 0 ∨ t = 1 ∨ t = 2 := by omega
    rcases hcases with rfl | rfl | rfl
    · obtain rfl : z = 1 := by omega
      clear hz
      go_wp2
      go_loop [8, 9] (fun dv jv => ∃ (s : Nat) (d : Int), s ≤ 1 ∧ jv = .int .i64 (s : Int) ∧ dv = .int .i64 d ∧ 0 ≤ d ∧ d ≤ 4294967295 ∧ Hid (d = x / 256 ^ s)) (fun _ jv => 1 - (intOf jv).toNat)
      case atStart => exact ⟨0, x, by omega, rfl, rfl, h0, h1, Lib.hid (by simp)⟩
      case round =>
        obtain ⟨s, d, hs, rfl, rfl, hd0, hd1, hd⟩ := hrel
        by_cases hlt : s < 1
        · have hq : d.tdiv 256 = d / 256 := quo_pos d hd0
          go_wp2
          go_round
          case rel =>
            refine ⟨s + 1, d / 256, by omega, by go_num, rfl, by omega, by omega, Lib.hid ?_⟩
            rw [hd.out, Int.ediv_ediv_of_nonneg (Int.pow_nonneg (by decide)), Int.pow_succ]
          case measure => simp [intOf]; omega
        · obtain rfl : s = 1 := by omega
          have hd2 : d % 256 = x / 256 ^ 1 % 256 := by rw [hd.out]
          have HD2 := Lib.hid hd2
          clear hd2 hd
          go_wp2_with (at_builtin; refine app_byte (.tmp 24) (.tmp 28) rfl rfl B _ _ rfl HO2.out rfl hsz (Lib.hid ?hl0) ?_)
          case hl0 => have := HL.out; simp [be_length]; omega
          intro v' w' hown hb2
          have HO3 := Lib.hid hown
          have HB3 := Lib.hid (HB.out.trans hb2)
          clear hown hb2
          go_wp2
          go_roundw
          case rel => exact ⟨1, 0, by omega, by omega, by first | rfl | go_num, by have := HO3.out; rw [HD2.out] at this; simpa [be, List.append_assoc] using this, HB3.out⟩
          case measure => simp [intOf]
    · obtain rfl : z = 0 := by omega
      clear hz
      go_wp2
      go_loop [8, 9] (fun dv jv => ∃ (s : Nat) (d : Int), s ≤ 0 ∧ jv = .int .i64 (s : Int) ∧ dv = .int .i64 d ∧ 0 ≤ d ∧ d ≤ 4294967295 ∧ Hid (d = x / 256 ^ s)) (fun _ jv => 0 - (intOf jv).toNat)
      case atStart => exact ⟨0, x, by omega, rfl, rfl, h0, h1, Lib.hid (by simp)⟩
      case round =>
        obtain ⟨s, d, hs, rfl, rfl, hd0, hd1, hd⟩ := hrel
        by_cases hlt : s < 0
        · exact absurd hlt (by omega)
        · obtain rfl : s = 0 := by omega
          have hd2 : d % 256 = x / 256 ^ 0 % 256 := by rw [hd.out]
          have HD2 := Lib.hid hd2
          clear hd2 hd
          go_wp2_with (at_builtin; refine app_byte (.tmp 24) (.tmp 28) rfl rfl B _ _ rfl HO2.out rfl hsz (Lib.hid ?hl1) ?_)
          case hl1 => have := HL.out; simp [be_length]; omega
          intro v' w' hown hb2
          have HO3 := Lib.hid hown
          have HB3 := Lib.hid (HB.out.trans hb2)
          clear hown hb2
          go_wp2
          go_roundw
          case rel => exact ⟨2, -1, by omega, by omega, by first | rfl | go_num, by have := HO3.out; rw [HD2.out] at this; simpa [be, List.append_assoc] using this, HB3.out⟩
          case measure => simp [intOf]
    · obtain rfl : z = -1 := by omega
      clear hz
      go_wp2
      go_ret
      exact ⟨_, rfl, by have := HO2.out; simpa [be] using this, HB.out⟩

set_option maxRecDepth 100000 in
theorem number4 (v : Value) (l : List Int) (x : Int) (B : Nat) (w : World) (h0 : 0 ≤ x) (h1 : x ≤ 4294967295) (hB : B ≤ w.heap.size) (hO : Own8 w B v l) (hl : l.length + 4 ≤ reach) :
    Calls Try.prog 70 #[v, .int .i64 x, .int .i64 4] w fun e w' => ∃ v', e = .returned v' ∧ Own8 w' B v' (l ++ be x 4) ∧ Below B w w' := by
  have HO := Lib.hid hO; clear hO
  have HL := Lib.hid hl; clear hl
  go_enter Try.func70, Try.ntmps70
  go_wp2
  go_loopw [0, 7, 8, 9] (fun u i _ _ wr => ∃ (t : Nat) (z : Int), t ≤ 4 ∧ z = 3 - t ∧ i = .int .i64 z ∧ Own8 wr B u (l ++ (be x 4).take t) ∧ Below B w wr) (fun _ i _ _ _ => (intOf i + 1).toNat)
  case atStart => exact ⟨0, 3, by omega, by omega, rfl, by simpa using HO.out, Below.refl _ _⟩
  case round =>
    obtain ⟨t, z, ht, hz, rfl, ho, hb⟩ := hrel
    obtain ⟨wo, rfl⟩ : ∃ wo : World, wo = wr := ⟨_, rfl⟩
    have HO2 := Lib.hid ho
    have HB := Lib.hid hb
    have hsz : B ≤ wo.heap.size := by have := hb.size; omega
    clear ho hb HO
    have hcases : t = 0 ∨ t = 1 ∨ t = 2 ∨ t = 3 ∨ t = 4 := by omega
    rcases hcases with rfl | rfl | rfl | rfl | rfl
    · obtain rfl : z = 3 := by omega
      clear hz
      go_wp2
      go_loop [8, 9] (fun dv jv => ∃ (s : Nat) (d : Int), s ≤ 3 ∧ jv = .int .i64 (s : Int) ∧ dv = .int .i64 d ∧ 0 ≤ d ∧ d ≤ 4294967295 ∧ Hid (d = x / 256 ^ s)) (fun _ jv => 3 - (intOf jv).toNat)
      case atStart => exact ⟨0, x, by omega, rfl, rfl, h0, h1, Lib.hid (by simp)⟩
      case round =>
        obtain ⟨s, d, hs, rfl, rfl, hd0, hd1, hd⟩ := hrel
        by_cases hlt : s < 3
        · have hq : d.tdiv 256 = d / 256 := quo_pos d hd0
          go_wp2
          go_round
          case rel =>
            refine ⟨s + 1, d / 256, by omega, by go_num, rfl, by omega, by omega, Lib.hid ?_⟩
            rw [hd.out, Int.ediv_ediv_of_nonneg (Int.pow_nonneg (by decide)), Int.pow_succ]
          case measure => simp [intOf]; omega
        · obtain rfl : s = 3 := by omega
          have hd2 : d % 256 = x / 256 ^ 3 % 256 := by rw [hd.out]
          have HD2 := Lib.hid hd2
          clear hd2 hd
          go_wp2_with (at_builtin; refine app_byte (.tmp 24) (.tmp 28) rfl rfl B _ _ rfl HO2.out rfl hsz (Lib.hid ?hl0) ?_)
          case hl0 => have := HL.out; simp [be_length]; omega
          intro v' w' hown hb2
          have HO3 := Lib.hid hown
          have HB3 := Lib.hid (HB.out.trans hb2)
          clear hown hb2
          go_wp2
          go_roundw
          case rel => exact ⟨1, 2, by omega, by omega, by first | rfl | go_num, by have := HO3.out; rw [HD2.out] at this; simpa [be, List.append_assoc] using this, HB3.out⟩
          case measure => simp [intOf]
    · obtain rfl : z = 2 := by omega
      clear hz
      go_wp2
      go_loop [8, 9] (fun dv jv => ∃ (s : Nat) (d : Int), s ≤ 2 ∧ jv = .int .i64 (s : Int) ∧ dv = .int .i64 d ∧ 0 ≤ d ∧ d ≤ 4294967295 ∧ Hid (d = x / 256 ^ s)) (fun _ jv => 2 - (intOf jv).toNat)
      case atStart => exact ⟨0, x, by omega, rfl, rfl, h0, h1, Lib.hid (by simp)⟩
      case round =>
        obtain ⟨s, d, hs, rfl, rfl, hd0, hd1, hd⟩ := hrel
        by_cases hlt : s < 2
        · have hq : d.tdiv 256 = d / 256 := quo_pos d hd0
          go_wp2
          go_round
          case rel =>
            refine ⟨s + 1, d / 256, by omega, by go_num, rfl, by omega, by omega, Lib.hid ?_⟩
            rw [hd.out, Int.ediv_ediv_of_nonneg (Int.pow_nonneg (by decide)), Int.pow_succ]
          case measure => simp [intOf]; omega
        · obtain rfl : s = 2 := by omega
          have hd2 : d % 256 = x / 256 ^ 2 % 256 := by rw [hd.out]
          have HD2 := Lib.hid hd2
          clear hd2 hd
          go_wp2_with (at_builtin; refine app_byte (.tmp 24) (.tmp 28) rfl rfl B _ _ rfl HO2.out rfl hsz (Lib.hid ?hl1) ?_)
          case hl1 => have := HL.out; simp [be_length]; omega
          intro v' w' hown hb2
          have HO3 := Lib.hid hown
          have HB3 := Lib.hid (HB.out.trans hb2)
          clear hown hb2
          go_wp2
          go_roundw
          case rel => exact ⟨2, 1, by omega, by omega, by first | rfl | go_num, by have := HO3.out; rw [HD2.out] at this; simpa [be, List.append_assoc] using this, HB3.out⟩
          case measure => simp [intOf]
    · obtain rfl : z = 1 := by omega
      clear hz
      go_wp2
      go_loop [8, 9] (fun dv jv => ∃ (s : Nat) (d : Int), s ≤ 1 ∧ jv = .int .i64 (s : Int) ∧ dv = .int .i64 d ∧ 0 ≤ d ∧ d ≤ 4294967295 ∧ Hid (d = x / 256 ^ s)) (fun _ jv => 1 - (intOf jv).toNat)
      case atStart => exact ⟨0, x, by omega, rfl, rfl, h0, h1, Lib.hid (by simp)⟩
      case round =>
        obtain ⟨s, d, hs, rfl, rfl, hd0, hd1, hd⟩ := hrel
        by_cases hlt : s < 1
        · have hq : d.tdiv 256 = d / 256 := quo_pos d hd0
          go_wp2
          go_round
          case rel =>
            refine ⟨s + 1, d / 256, by omega, by go_num, rfl, by omega, by omega, Lib.hid ?_⟩
            rw [hd.out, Int.ediv_ediv_of_nonneg (Int.pow_nonneg (by decide)), Int.pow_succ]
          case measure => simp [intOf]; omega
        · obtain rfl : s = 1 := by omega
          have hd2 : d % 256 = x / 256 ^ 1 % 256 := by rw [hd.out]
          have HD2 := Lib.hid hd2
          clear hd2 hd
          go_wp2_with (at_builtin; refine app_byte (.tmp 24) (.tmp 28) rfl rfl B _ _ rfl HO2.out rfl hsz (Lib.hid ?hl2) ?_)
          case hl2 => have := HL.out; simp [be_length]; omega
          intro v' w' hown hb2
          have HO3 := Lib.hid hown
          have HB3 := Lib.hid (HB.out.trans hb2)
          clear hown hb2
          go_wp2
          go_roundw
          case rel => exact ⟨3, 0, by omega, by omega, by first | rfl | go_num, by have := HO3.out; rw [HD2.out] at this; simpa [be, List.append_assoc] using this, HB3.out⟩
          case measure => simp [intOf]
    · obtain rfl : z = 0 := by omega
      clear hz
      go_wp2
      go_loop [8, 9] (fun dv jv => ∃ (s : Nat) (d : Int), s ≤ 0 ∧ jv = .int .i64 (s : Int) ∧ dv = .int .i64 d ∧ 0 ≤ d ∧ d ≤ 4294967295 ∧ Hid (d = x / 256 ^ s)) (fun _ jv => 0 - (intOf jv).toNat)
      case atStart => exact ⟨0, x, by omega, rfl, rfl, h0, h1, Lib.hid (by simp)⟩
      case round =>
        obtain ⟨s, d, hs, rfl, rfl, hd0, hd1, hd⟩ := hrel
        by_cases hlt : s < 0
        · exact absurd hlt (by omega)
        · obtain rfl : s = 0 := by omega
          have hd2 : d % 256 = x / 256 ^ 0 % 256 := by rw [hd.out]
          have HD2 := Lib.hid hd2
          clear hd2 hd
          go_wp2_with (at_builtin; refine app_byte (.tmp 24) (.tmp 28) rfl rfl B _ _ rfl HO2.out rfl hsz (Lib.hid ?hl3) ?_)
          case hl3 => have := HL.out; simp [be_length]; omega
          intro v' w' hown hb2
          have HO3 := Lib.hid hown
          have HB3 := Lib.hid (HB.out.trans hb2)
          clear hown hb2
          go_wp2
          go_roundw
          case rel => exact ⟨4, -1, by omega, by omega, by first | rfl | go_num, by have := HO3.out; rw [HD2.out] at this; simpa [be, List.append_assoc] using this, HB3.out⟩
          case measure => simp [intOf]
    · obtain rfl : z = -1 := by omega
      clear hz
      go_wp2
      go_ret
      exact ⟨_, rfl, by have := HO2.out; simpa [be] using this, HB.out⟩
end Go.Proofs.Ytkbboepopcebaaa
