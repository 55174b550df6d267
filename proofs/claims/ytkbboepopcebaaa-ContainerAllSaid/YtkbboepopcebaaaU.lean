/- Serialize. -/
import Derived.Test.YtkbboepopcebaaaR
import Derived.Test.YtkbboepopcebaaaS
import Derived.Deep.DeepCutAuto
namespace Go.Proofs.Ytkbboepopcebaaa
open Go.RowKit

set_option maxRecDepth 100000 in
theorem ser_no (e1 : Int) (k1 : ¬ e1 = 0) (A0 A1 A2 A3 : Option Addr) (n0 n1 n2 n3 c0 c1 c2 c3 : Nat) (sz : Int) (w : World) (nn : Int)
    (h1 : Calls Try.prog 26 #[.agg #[.slice A0 n0 c0, .slice A1 n1 c1, .slice A2 n2 c2, .slice A3 n3 c3, .int .i64 sz]] (w.alloc (.cells #[.slice A0 n0 c0, .slice A1 n1 c1, .slice A2 n2 c2, .slice A3 n3 c3, .int .i64 sz] 28)) fun e w' => e = .returned (.tuple #[.int .i64 nn, .int .i64 e1]) ∧ Below (w.alloc (.cells #[.slice A0 n0 c0, .slice A1 n1 c1, .slice A2 n2 c2, .slice A3 n3 c3, .int .i64 sz] 28)).heap.size (w.alloc (.cells #[.slice A0 n0 c0, .slice A1 n1 c1, .slice A2 n2 c2, .slice A3 n3 c3, .int .i64 sz] 28)) w') :
    Calls Try.prog 25 #[.agg #[.slice A0 n0 c0, .slice A1 n1 c1, .slice A2 n2 c2, .slice A3 n3 c3, .int .i64 sz]] w fun e w' => e = .returned (.tuple #[.slice none 0 0, .int .i64 e1]) ∧ Below w.heap.size w w' := by
  have H1 := Lib.hid h1; clear h1
  have hk1 : (!(e1 == 0)) = true := by simp [k1]
  go_enter Try.func25, Try.ntmps25
  go_wp2_with fail
  refine H1.out.mono ?_
  rintro e w1 ⟨rfl, hb⟩
  have HB := Lib.hid (below_step (below_alloc _ _) hb)
  clear hb
  go_wp2
  go_ret2
  exact ⟨rfl, HB.out⟩

theorem since_ext {w W w' : World} {va : Array Value} {v v' : Value} {l : List Int} (h : Since w va W) (e : Ext W w' v v') (ho : Own8 W (bs w va) v l) : Since w va w' := since_trans h (e.below ho (since_size h))
theorem roomk {w : World} {B : Nat} {v : Value} {l : List Int} (k : Nat) (_ : Hid (Own8 w B v l)) (hl : l.length + k ≤ reach) : Hid (l.length + k ≤ reach) := hl
theorem lens_snoc (ll : List (List Int)) (s k : Nat) (h : k < ll.length) : ((lens (ll.take (k + 1))).flatMap fun x => be x s) = ((lens (ll.take k)).flatMap fun x => be x s) ++ be ((ll.getD k []).length : Int) s := by
  rw [take_snoc' ll k [] h]; simp [lens]
theorem lens_flat_length (ll : List (List Int)) (s : Nat) : ((lens ll).flatMap fun x => be x s).length = ll.length * s := by
  rw [flat_length, lens_length]

set_option maxRecDepth 100000 in
set_option maxHeartbeats 8000000 in
theorem ser_yes (A0 A1 A2 A3 : Option Addr) (n0 n1 n2 n3 c0 c1 c2 c3 : Nat) (c : Cont) (w : World) (sz : Int) (nn : Nat) (hnn : nn ≤ 4398046511104) (hsz : c.size = sz) (hl0 : c.types.length = n0) (hl1 : c.codes.length = n1) (hl2 : c.subs.length = n2) (hl3 : c.data.length = n3) (hm : May c)
    (ht : CellsR w A0 (tysOf c.types)) (hc : PartsR w A1 c.codes) (hs : PartsR w A2 c.subs) (hd : NumsV w .u8 (.slice A3 n3 c3) c.data)
    (h1 : Calls Try.prog 26 #[.agg #[.slice A0 n0 c0, .slice A1 n1 c1, .slice A2 n2 c2, .slice A3 n3 c3, .int .i64 sz]] (w.alloc (.cells #[.slice A0 n0 c0, .slice A1 n1 c1, .slice A2 n2 c2, .slice A3 n3 c3, .int .i64 sz] 28)) fun e w' => e = .returned (.tuple #[.int .i64 (nn : Int), .int .i64 0]) ∧ Below (w.alloc (.cells #[.slice A0 n0 c0, .slice A1 n1 c1, .slice A2 n2 c2, .slice A3 n3 c3, .int .i64 sz] 28)).heap.size (w.alloc (.cells #[.slice A0 n0 c0, .slice A1 n1 c1, .slice A2 n2 c2, .slice A3 n3 c3, .int .i64 sz] 28)) w') :
    Calls Try.prog 25 #[.agg #[.slice A0 n0 c0, .slice A1 n1 c1, .slice A2 n2 c2, .slice A3 n3 c3, .int .i64 sz]] w fun e w' => ∃ v, e = .returned (.tuple #[v, .int .i64 0]) ∧ Own8 w' (bs w #[.slice A0 n0 c0, .slice A1 n1 c1, .slice A2 n2 c2, .slice A3 n3 c3, .int .i64 sz]) v (serB c) ∧ Below w.heap.size w w' := by
  have H1 := Lib.hid h1; clear h1
  have HSZ := Lib.hid hsz; clear hsz
  have HL0 := Lib.hid hl0; clear hl0
  have HL1 := Lib.hid hl1; clear hl1
  have HL2 := Lib.hid hl2; clear hl2
  have HL3 := Lib.hid hl3; clear hl3
  have HM := Lib.hid hm; clear hm
  have HT := Lib.hid ht; clear ht
  have HC := Lib.hid hc; clear hc
  have HS := Lib.hid hs; clear hs
  have HD := Lib.hid hd; clear hd
  have gs : 0 ≤ sz := by have := HM.out.data; have := HSZ.out; omega
  have gs1 : sz ≤ 65535 := by have := HM.out.size; have := HSZ.out; omega
  have gn1 : n1 ≤ 1024 := by have := HM.out.codes2; have := HL1.out; omega
  have gn0 : n0 ≤ 1024 := by have := HM.out.codes2; have := HM.out.types; have := HL0.out; omega
  have gn2 : n2 ≤ 256 := by have := HM.out.subs; have := HL2.out; omega
  have gn3 : n3 ≤ 65535 := by have := HM.out.data; have := HL3.out; have := HSZ.out; omega
  have gn01 : n0 = n1 := by have := HM.out.types; have := HL0.out; have := HL1.out; omega
  have GN := Lib.hid gn01; clear gn01
  obtain ⟨i0, hi, hz0, hz1, hz2⟩ := info_parts infoB
  go_enter Try.func25, Try.ntmps25
  go_wp2_with fail
  refine H1.out.mono ?_
  rintro e w1 ⟨rfl, hb⟩
  have HB1 : Hid (Since w #[.slice A0 n0 c0, .slice A1 n1 c1, .slice A2 n2 c2, .slice A3 n3 c3, .int .i64 sz] w1) := Lib.hid hb
  clear hb H1
  go_wp2_with (at_make; refine wpList_make_own _ rfl _ _ 22 rfl (bs w #[.slice A0 n0 c0, .slice A1 n1 c1, .slice A2 n2 c2, .slice A3 n3 c3, .int .i64 sz]) 5 i0 (.int .u8 0) 1 Try.underlying22 hi hz0 hz1 _ _ _ nn rfl rfl rfl ?b2 ?b3 (since_size HB1.out) ?_)
  case b2 => rw [hz2]; omega
  case b3 => unfold maxLen; omega
  intro w2 ho hg
  have HO2 : Hid (Own8 w2 (bs w #[.slice A0 n0 c0, .slice A1 n1 c1, .slice A2 n2 c2, .slice A3 n3 c3, .int .i64 sz]) _ []) := Lib.hid ho
  have HB2 := Lib.hid (since_trans HB1.out ((Below.refl _ _).grown hg (since_size HB1.out) (by simp)))
  clear ho hg
  go_wp2_with (at_builtin; refine app_box (.tmp 27) (.tmp 28) rfl rfl _ _ _ [239, 0, 1, 1] 4 rfl HO2 rfl (Lib.hid rfl) (since_size HB2.out) (Lib.hid (by simp [reach])) ?_)
  intro v3 w3 ho hb
  have HO3 := Lib.hid ho
  have HB3 := Lib.hid (since_ext HB2.out hb HO2.out)
  clear ho hb
  have x0 := since_cell HB3.out 0 _ rfl
  have HL4p : Hid (_ ≤ reach) := roomk 2 HO3 (by have := HL0.out; have := HL1.out; have := HL2.out; simp only [List.length_append, be_length, List.length_cons, List.length_nil, lens_flat_length, tysB_length, List.length_take]; unfold reach; omega)
  go_wp2_with fail
  refine (put2x _ _ _ _ _ (by omega) (by omega) (since_size HB3.out) HO3.out HL4p.out).mono ?_
  rintro e w4 ⟨v4, rfl, ho, hb⟩
  have HO4 := Lib.hid ho
  have HB4 := Lib.hid (since_ext HB3.out hb HO3.out)
  clear ho hb
  clear x0
  have HR5 := room1 HO4 (by have := HL0.out; have := HL1.out; have := HL2.out; simp only [List.length_append, be_length, List.length_cons, List.length_nil, lens_flat_length, tysB_length, List.length_take]; unfold reach; omega)
  go_wp2_with (at_builtin; refine appx_byte (.tmp 35) (.tmp 36) rfl rfl _ _ _ rfl HO4 rfl (since_size HB4.out) HR5 ?_)
  intro v5 w5 ho hb
  have HO5 := Lib.hid ho
  have HB5 := Lib.hid (since_ext HB4.out hb HO4.out)
  clear ho hb
  have x1 := since_cell HB5.out 1 _ rfl
  have HL6p : Hid (_ ≤ reach) := roomk 2 HO5 (by have := HL0.out; have := HL1.out; have := HL2.out; simp only [List.length_append, be_length, List.length_cons, List.length_nil, lens_flat_length, tysB_length, List.length_take]; unfold reach; omega)
  go_wp2_with fail
  refine (put2x _ _ _ _ _ (by omega) (by omega) (since_size HB5.out) HO5.out HL6p.out).mono ?_
  rintro e w6 ⟨v6, rfl, ho, hb⟩
  have HO6 := Lib.hid ho
  have HB6 := Lib.hid (since_ext HB5.out hb HO5.out)
  clear ho hb
  clear x1
  have x1 := since_cell HB6.out 1 _ rfl
  go_wp2
  clear x1
  go_loopw [6, 8, 46] (fun v _ i wr => ∃ k : Nat, k ≤ n1 ∧ i = .int .i64 k ∧ Own8 wr (bs w #[.slice A0 n0 c0, .slice A1 n1 c1, .slice A2 n2 c2, .slice A3 n3 c3, .int .i64 sz]) v (([239, 0, 1, 1] ++ be (4 * (n0 : Int)) 2 ++ [2] ++ be n1 2) ++ ((lens (c.codes.take k)).flatMap fun x => be x 2)) ∧ Since w #[.slice A0 n0 c0, .slice A1 n1 c1, .slice A2 n2 c2, .slice A3 n3 c3, .int .i64 sz] wr) (fun _ _ i _ => n1 - (intOf i).toNat)
  case atStart => exact ⟨0, Nat.zero_le _, rfl, by have := HO6.out; simpa [lens] using this, HB6.out⟩
  case round =>
    obtain ⟨k, hk, rfl, ho, hb⟩ := hrel
    have HO7 := Lib.hid ho
    have HB7 := Lib.hid hb
    clear ho hb HO6 HO5 HO4 HO3 HO2
    by_cases hlt : k < n1
    · have hk2 : k < c.codes.length := by have := HL1.out; omega
      have hst := lens_snoc c.codes 2 k hk2
      obtain ⟨b1, o1, rfl, hcc⟩ := (HC.out.mono (since_below HB7.out)).2 (by omega)
      obtain ⟨p, hcell, B1, d1, rfl, _, _, _⟩ := hcc k hk2
      have hcb := (HM.out.code (c.codes.getD k []) (by rw [show c.codes.getD k [] = c.codes[k] by simp [List.getD_eq_getElem?_getD, hk2]]; exact List.getElem_mem _)).2
      obtain ⟨m, hm⟩ : ∃ m, m = (c.codes.getD k []).length := ⟨_, rfl⟩
      rw [← hm] at hcell hst hcb
      have HST := Lib.hid hst
      have HR8 : Hid (_ ≤ reach) := roomk 2 HO7 (by
        have := HL0.out; have := HL1.out; have := HL2.out
        simp only [List.length_append, be_length, List.length_cons, List.length_nil, lens_flat_length, tysB_length, List.length_take]
        unfold reach; omega)
      clear hm hcc hst
      go_wp2_with fail
      refine (put2x _ _ _ _ _ (by omega) (by omega) (since_size HB7.out) HO7.out HR8.out).mono ?_
      rintro e w8 ⟨v8, rfl, ho, hb⟩
      have HO8 := Lib.hid ho
      have HB8 := Lib.hid (since_ext HB7.out hb HO7.out)
      clear ho hb
      go_wp2
      go_roundw
      case rel => exact ⟨k + 1, by omega, by go_num, by have := HO8.out; rw [HST.out]; simpa only [List.append_assoc, List.cons_append, List.nil_append] using this, HB8.out⟩
      case measure => exact own_meas hlt
    · obtain rfl : n1 = k := by omega
      have ho8 := HO7.out
      rw [List.take_of_length_le (by have := HL1.out; omega)] at ho8
      have HO8 := Lib.hid ho8
      clear ho8 HO7
      have x2 := since_cell HB7.out 2 _ rfl

      go_upto_if 58 with (fail)
      go_cut [6] (fun v wx => Own8 wx (bs w #[.slice A0 n0 c0, .slice A1 n1 c1, .slice A2 n2 c2, .slice A3 n3 c3, .int .i64 sz]) v ((([239, 0, 1, 1] ++ be (4 * (n0 : Int)) 2 ++ [2] ++ be n1 2) ++ ((lens c.codes).flatMap fun x => be x 2)) ++ part3 (lens c.subs)) ∧ Since w #[.slice A0 n0 c0, .slice A1 n1 c1, .slice A2 n2 c2, .slice A3 n3 c3, .int .i64 sz] wx)
      case first =>
        by_cases hm0 : n2 = 0
        · have HM0 := Lib.hid hm0
          subst hm0
          go_wp2_with fail
          go_meet
          refine ⟨?_, HB7.out⟩
          have : part3 (lens c.subs) = [] := by rw [part3, if_pos (by rw [lens_length]; exact HL2.out)]
          rw [this, List.append_nil]
          exact HO8.out
        · have hm1 : (0 : Int) < n2 := by omega
          have HR9 := room1 HO8 (by have := HL0.out; have := HL1.out; have := HL2.out; simp only [List.length_append, be_length, List.length_cons, List.length_nil, lens_flat_length, tysB_length, List.length_take]; unfold reach; omega)
          have HR10 : Hid (((([239, 0, 1, 1] ++ be (4 * (n0 : Int)) 2 ++ [2] ++ be n1 2) ++ ((lens c.codes).flatMap fun x => be x 2)) ++ [3]).length + 2 ≤ reach) := Lib.hid (by have := HL0.out; have := HL1.out; have := HL2.out; simp only [List.length_append, be_length, List.length_cons, List.length_nil, lens_flat_length, tysB_length, List.length_take]; unfold reach; omega)
          go_upto_region 14 with (fail)
          go_cut [6] (fun v wx => Own8 wx (bs w #[.slice A0 n0 c0, .slice A1 n1 c1, .slice A2 n2 c2, .slice A3 n3 c3, .int .i64 sz]) v ((([239, 0, 1, 1] ++ be (4 * (n0 : Int)) 2 ++ [2] ++ be n1 2) ++ ((lens c.codes).flatMap fun x => be x 2)) ++ [3] ++ be n2 2) ∧ Since w #[.slice A0 n0 c0, .slice A1 n1 c1, .slice A2 n2 c2, .slice A3 n3 c3, .int .i64 sz] wx)
          case first =>
            go_region_held3 (fun w' => w'.cell? ⟨w.heap.size, 2, none⟩ = some (.slice A2 n2 c2))
              (first | go_keep | (exact since_cell (by with_reducible first | exact HB9.out | exact since_alloc HB9.out _ | exact since_drew HB9.out | exact since_drew (since_alloc HB9.out _) | exact since_drew (since_alloc (since_alloc HB9.out _) _) | exact since_alloc (since_alloc HB9.out _) _) 2 _ rfl) | (exact since_cell (by with_reducible first | exact HB10.out | exact since_alloc HB10.out _ | exact since_drew HB10.out | exact since_drew (since_alloc HB10.out _) | exact since_drew (since_alloc (since_alloc HB10.out _) _) | exact since_alloc (since_alloc HB10.out _) _) 2 _ rfl))
              ((first
                | (go_at_call 49; (with_reducible refine (put2at HO9 (by omega) (by omega) (since_size HB9.out) HR10 (by with_reducible first | exact Below.refl _ _ | exact (Below.refl _ _).drew | exact below_alloc _ _ | exact (below_alloc _ _).drew | exact below_step (below_alloc _ _) (below_alloc _ _) | exact (below_step (below_alloc _ _) (below_alloc _ _)).drew)).mono ?_); rintro e w10 ⟨v10, rfl, ho, hb, he⟩; have HE10 := Lib.hid he; have HO10 := Lib.hid ho; have HB10 := Lib.hid (since_ext HB9.out hb HO9.out); clear ho hb he)
                | (refine step_g1 3 (.tmp 59) (.tmp 60) rfl rfl _ HO8 rfl rfl HR9 (since_size HB7.out) (by with_reducible first | exact Below.refl _ _ | exact (Below.refl _ _).drew | exact below_alloc _ _ | exact (below_alloc _ _).drew | exact below_step (below_alloc _ _) (below_alloc _ _) | exact (below_step (below_alloc _ _) (below_alloc _ _)).drew) (by with_reducible first | exact box_dr (box_new' _ _ _ (by first | rfl | simp)) | exact box_new' _ _ _ (by first | rfl | simp) | exact box_dr (box_al _ (box_new' _ _ _ (by first | rfl | simp))) | exact box_al _ (box_new' _ _ _ (by first | rfl | simp))) ?_; intro v9 w9 ho hb he; have HE9 := Lib.hid he; have HO9 := Lib.hid ho; have HB9 := Lib.hid (since_ext HB7.out hb HO8.out); clear ho hb he)))
            all_goals (go_wp2_with fail; go_meet; exact ⟨HO10.out, HB10.out⟩)
          case rest =>
            obtain ⟨ho, hb⟩ := hcut
            have HO10 := Lib.hid ho
            have HB10 := Lib.hid hb
            clear ho hb
            have x2 := since_cell HB10.out 2 _ rfl
            go_wp2
            clear x2
            go_loopw [6, 10, 69] (fun v _ i wr => ∃ j : Nat, j ≤ n2 ∧ i = .int .i64 j ∧ Own8 wr (bs w #[.slice A0 n0 c0, .slice A1 n1 c1, .slice A2 n2 c2, .slice A3 n3 c3, .int .i64 sz]) v ((([239, 0, 1, 1] ++ be (4 * (n0 : Int)) 2 ++ [2] ++ be n1 2) ++ ((lens c.codes).flatMap fun x => be x 2)) ++ [3] ++ be n2 2 ++ ((lens (c.subs.take j)).flatMap fun x => be x 4)) ∧ Since w #[.slice A0 n0 c0, .slice A1 n1 c1, .slice A2 n2 c2, .slice A3 n3 c3, .int .i64 sz] wr) (fun _ _ i _ => n2 - (intOf i).toNat)
            case atStart => exact ⟨0, Nat.zero_le _, rfl, by have := HO10.out; simpa [lens] using this, HB10.out⟩
            case round =>
              obtain ⟨j, hj, rfl, ho, hb⟩ := hrel
              have HO11 := Lib.hid ho
              have HB11 := Lib.hid hb
              clear ho hb
              by_cases hlj : j < n2
              · have hk2 : j < c.subs.length := by have := HL2.out; omega
                have hst := lens_snoc c.subs 4 j hk2
                obtain ⟨b1, o1, rfl, hcc⟩ := (HS.out.mono (since_below HB11.out)).2 (by omega)
                obtain ⟨p, hcell, B1, d1, rfl, _, _, _⟩ := hcc j hk2
                have hcb := (HM.out.sub (c.subs.getD j []) (by rw [show c.subs.getD j [] = c.subs[j] by simp [List.getD_eq_getElem?_getD, hk2]]; exact List.getElem_mem _)).2
                obtain ⟨m, hm⟩ : ∃ m, m = (c.subs.getD j []).length := ⟨_, rfl⟩
                rw [← hm] at hcell hst hcb
                have HST := Lib.hid hst
                have HR12 : Hid (_ ≤ reach) := roomk 4 HO11 (by
                  have := HL0.out; have := HL1.out; have := HL2.out
                  simp only [List.length_append, be_length, List.length_cons, List.length_nil, lens_flat_length, tysB_length, List.length_take]
                  unfold reach; omega)
                clear hm hcc hst
                go_wp2_with fail
                refine (put4at HO11 (by omega) (by omega) (since_size HB11.out) HR12 (Below.refl _ _)).mono ?_
                rintro e w12 ⟨v12, rfl, ho, hb, _⟩
                have HO12 := Lib.hid ho
                have HB12 := Lib.hid (since_ext HB11.out hb HO11.out)
                clear ho hb
                go_wp2
                go_roundw
                case rel => exact ⟨j + 1, by omega, by go_num, by have := HO12.out; rw [HST.out]; simpa only [List.append_assoc, List.cons_append, List.nil_append] using this, HB12.out⟩
                case measure => exact own_meas hlj
              · go_wp2_with fail
                go_meet
                obtain rfl : n2 = j := by omega
                refine ⟨?_, HB11.out⟩
                have h9 := HO11.out
                rw [List.take_of_length_le (by have := HL2.out; omega)] at h9
                rw [part3, if_neg (by rw [lens_length]; have := HL2.out; omega), lens_length, HL2.out]
                simpa only [List.append_assoc, List.cons_append, List.nil_append] using h9
      case rest =>
        obtain ⟨ho, hb⟩ := hcut
        have HO20 := Lib.hid ho
        have HB20 := Lib.hid hb
        clear ho hb HO8 HB7
        have hp3 : (part3 (lens c.subs)).length ≤ 1027 := by
          have := HL2.out
          unfold part3
          split
          · simp
          · simp only [List.length_append, be_length, List.length_cons, List.length_nil, lens_flat_length, lens_length]; omega
        have HP3 := Lib.hid hp3
        clear hp3
        have HR20 : Hid ((((([239, 0, 1, 1] ++ be (4 * (n0 : Int)) 2 ++ [2] ++ be n1 2) ++ ((lens c.codes).flatMap fun x => be x 2)) ++ part3 (lens c.subs))).length + 1 ≤ reach) := Lib.hid (by have := HP3.out; have := HL0.out; have := HL1.out; have := HL2.out; simp only [List.length_append, be_length, List.length_cons, List.length_nil, lens_flat_length, tysB_length, List.length_take]; unfold reach; omega)
        have HR21 : Hid ((((([239, 0, 1, 1] ++ be (4 * (n0 : Int)) 2 ++ [2] ++ be n1 2) ++ ((lens c.codes).flatMap fun x => be x 2)) ++ part3 (lens c.subs)) ++ [255]).length + 2 ≤ reach) := Lib.hid (by have := HP3.out; have := HL0.out; have := HL1.out; have := HL2.out; simp only [List.length_append, be_length, List.length_cons, List.length_nil, lens_flat_length, tysB_length, List.length_take]; unfold reach; omega)
        have HR22 : Hid (((((([239, 0, 1, 1] ++ be (4 * (n0 : Int)) 2 ++ [2] ++ be n1 2) ++ ((lens c.codes).flatMap fun x => be x 2)) ++ part3 (lens c.subs)) ++ [255]) ++ be sz 2).length + 1 ≤ reach) := Lib.hid (by have := HP3.out; have := HL0.out; have := HL1.out; have := HL2.out; simp only [List.length_append, be_length, List.length_cons, List.length_nil, lens_flat_length, tysB_length, List.length_take]; unfold reach; omega)
        have x4 := since_cell HB20.out 4 _ rfl
        go_upto_region 20 with (fail)
        go_cut [6] (fun v wx => Own8 wx (bs w #[.slice A0 n0 c0, .slice A1 n1 c1, .slice A2 n2 c2, .slice A3 n3 c3, .int .i64 sz]) v (((([239, 0, 1, 1] ++ be (4 * (n0 : Int)) 2 ++ [2] ++ be n1 2) ++ ((lens c.codes).flatMap fun x => be x 2)) ++ part3 (lens c.subs)) ++ [255] ++ be sz 2 ++ [0]) ∧ Since w #[.slice A0 n0 c0, .slice A1 n1 c1, .slice A2 n2 c2, .slice A3 n3 c3, .int .i64 sz] wx)
        case first =>
          go_region_held3 (fun w' => w'.cell? ⟨w.heap.size, 4, none⟩ = some (.int .i64 sz))
            (first | go_keep | (exact since_cell (by with_reducible first | exact HB20.out | exact since_alloc HB20.out _ | exact since_drew HB20.out | exact since_drew (since_alloc HB20.out _) | exact since_drew (since_alloc (since_alloc HB20.out _) _) | exact since_alloc (since_alloc HB20.out _) _) 4 _ rfl) | (exact since_cell (by with_reducible first | exact HB21.out | exact since_alloc HB21.out _ | exact since_drew HB21.out | exact since_drew (since_alloc HB21.out _) | exact since_drew (since_alloc (since_alloc HB21.out _) _) | exact since_alloc (since_alloc HB21.out _) _) 4 _ rfl) | (exact since_cell (by with_reducible first | exact HB22.out | exact since_alloc HB22.out _ | exact since_drew HB22.out | exact since_drew (since_alloc HB22.out _) | exact since_drew (since_alloc (since_alloc HB22.out _) _) | exact since_alloc (since_alloc HB22.out _) _) 4 _ rfl) | (exact since_cell (by with_reducible first | exact HB23.out | exact since_alloc HB23.out _ | exact since_drew HB23.out | exact since_drew (since_alloc HB23.out _) | exact since_drew (since_alloc (since_alloc HB23.out _) _) | exact since_alloc (since_alloc HB23.out _) _) 4 _ rfl))
            ((first
              | (go_at_call 49; (with_reducible refine (put2at HO21 gs (by omega) (since_size HB21.out) HR21 (by with_reducible first | exact Below.refl _ _ | exact (Below.refl _ _).drew | exact below_alloc _ _ | exact (below_alloc _ _).drew | exact below_step (below_alloc _ _) (below_alloc _ _) | exact (below_step (below_alloc _ _) (below_alloc _ _)).drew)).mono ?_); rintro e w22 ⟨v22, rfl, ho, hb, he⟩; have HE22 := Lib.hid he; have HO22 := Lib.hid ho; have HB22 := Lib.hid (since_ext HB21.out hb HO21.out); clear ho hb he)
              | (refine step_g1 255 (.tmp 78) (.tmp 79) rfl rfl _ HO20 rfl rfl HR20 (since_size HB20.out) (by with_reducible first | exact Below.refl _ _ | exact (Below.refl _ _).drew | exact below_alloc _ _ | exact (below_alloc _ _).drew | exact below_step (below_alloc _ _) (below_alloc _ _) | exact (below_step (below_alloc _ _) (below_alloc _ _)).drew) (by with_reducible first | exact box_dr (box_new' _ _ _ (by first | rfl | simp)) | exact box_new' _ _ _ (by first | rfl | simp) | exact box_dr (box_al _ (box_new' _ _ _ (by first | rfl | simp))) | exact box_al _ (box_new' _ _ _ (by first | rfl | simp))) ?_; intro v21 w21 ho hb he; have HE21 := Lib.hid he; have HO21 := Lib.hid ho; have HB21 := Lib.hid (since_ext HB20.out hb HO20.out); clear ho hb he)
              | (refine step_g1 0 (.tmp 83) (.tmp 84) rfl rfl _ HO22 rfl rfl HR22 (since_size HB22.out) (by with_reducible first | exact Below.refl _ _ | exact (Below.refl _ _).drew | exact below_alloc _ _ | exact (below_alloc _ _).drew | exact below_step (below_alloc _ _) (below_alloc _ _) | exact (below_step (below_alloc _ _) (below_alloc _ _)).drew) (by with_reducible first | exact box_new' _ _ _ (by first | rfl | simp) | exact HE22.out.box (box_new' _ _ _ (by first | rfl | simp)) (own_ne HO21.out (Nat.le_refl _)) | exact HE22.out.box (HE21.out.box (box_new' _ _ _ (by first | rfl | simp)) (own_ne HO20.out (by simp <;> omega))) (HE21.out.ne (by simp [drew_size] <;> omega) (own_ne HO20.out (by simp <;> omega))) | exact HE22.out.box (HE21.out.box (box_dr (box_new' _ _ _ (by first | rfl | simp))) (own_ne HO20.out (by simp <;> omega))) (HE21.out.ne (by simp [drew_size] <;> omega) (own_ne HO20.out (by simp <;> omega))) | exact HE22.out.box (HE21.out.box (box_al _ (box_new' _ _ _ (by first | rfl | simp))) (own_ne HO20.out (by simp <;> omega))) (HE21.out.ne (by simp [drew_size] <;> omega) (own_ne HO20.out (by simp <;> omega))) | exact HE22.out.box (HE21.out.box (box_dr (box_al _ (box_new' _ _ _ (by first | rfl | simp)))) (own_ne HO20.out (by simp <;> omega))) (HE21.out.ne (by simp [drew_size] <;> omega) (own_ne HO20.out (by simp <;> omega)))) ?_; intro v23 w23 ho hb he; have HE23 := Lib.hid he; have HO23 := Lib.hid ho; have HB23 := Lib.hid (since_ext HB22.out hb HO22.out); clear ho hb he)))
          all_goals (go_wp2_with fail; go_meet; exact ⟨HO23.out, HB23.out⟩)
        case rest =>
          obtain ⟨ho, hb⟩ := hcut
          have HO30 := Lib.hid ho
          have HB30 := Lib.hid hb
          clear ho hb HO20 HB20 x4
          have x0 := since_cell HB30.out 0 _ rfl
          go_wp2
          clear x0
          go_loopw [6, 12, 89] (fun v _ i wr => ∃ k : Nat, k ≤ n0 ∧ i = .int .i64 k ∧ Own8 wr (bs w #[.slice A0 n0 c0, .slice A1 n1 c1, .slice A2 n2 c2, .slice A3 n3 c3, .int .i64 sz]) v ((((([239, 0, 1, 1] ++ be (4 * (n0 : Int)) 2 ++ [2] ++ be n1 2) ++ ((lens c.codes).flatMap fun x => be x 2)) ++ part3 (lens c.subs)) ++ [255] ++ be sz 2 ++ [0]) ++ (c.types.take k).flatMap tyB) ∧ Since w #[.slice A0 n0 c0, .slice A1 n1 c1, .slice A2 n2 c2, .slice A3 n3 c3, .int .i64 sz] wr) (fun _ _ i _ => n0 - (intOf i).toNat)
          case atStart => exact ⟨0, Nat.zero_le _, rfl, by have := HO30.out; simpa using this, HB30.out⟩
          case round =>
            obtain ⟨k, hk, rfl, ho, hb⟩ := hrel
            have HO31 := Lib.hid ho
            have HB31 := Lib.hid hb
            clear ho hb HO30
            by_cases hlt : k < n0
            · have hk2 : k < c.types.length := by have := HL0.out; omega
              have hx := tysOk_all c.types true HM.out.tys k hk2
              have hst := tysB_snoc c.types k hk2
              obtain ⟨b1, o1, hA0, i1, i2, i3⟩ := types_at (HT.out.mono (since_below HB31.out)) k hk2
              obtain ⟨x, hxx⟩ : ∃ x, x = c.types.getD k ty0 := ⟨_, rfl⟩
              rw [← hxx] at i1 i2 i3 hx hst
              have HST := Lib.hid hst
              clear hxx hst
              obtain ⟨y1, y2, y3⟩ := x
              obtain ⟨⟨p1, q1⟩, ⟨p2, q2⟩, p3, q3⟩ := hx
              have HR32 : Hid (_ ≤ reach) := roomk 2 HO31 (by
                have := HP3.out; have := HL0.out; have := HL1.out; have := HL2.out
                simp only [List.length_append, be_length, List.length_cons, List.length_nil, lens_flat_length, tysB_length, List.length_take]
                unfold reach; omega)
              have HR33 : Hid ((((((([239, 0, 1, 1] ++ be (4 * (n0 : Int)) 2 ++ [2] ++ be n1 2) ++ ((lens c.codes).flatMap fun x => be x 2)) ++ part3 (lens c.subs)) ++ [255] ++ be sz 2 ++ [0]) ++ (c.types.take k).flatMap tyB) ++ [IntKind.u8.wrap y1, IntKind.u8.wrap y2]).length + 2 ≤ reach) := Lib.hid (by
                have := HP3.out; have := HL0.out; have := HL1.out; have := HL2.out
                simp only [List.length_append, be_length, List.length_cons, List.length_nil, lens_flat_length, tysB_length, List.length_take]
                unfold reach; omega)
              obtain ⟨va, hva⟩ : ∃ va : Array Value, va = #[.slice A0 n0 c0, .slice A1 n1 c1, .slice A2 n2 c2, .slice A3 n3 c3, .int .i64 sz] := ⟨_, rfl⟩
              rw [← hva] at HO31 HB31
              have HVA := Lib.hid hva
              clear hva
              subst hA0
              have hne := own_ne HO31.out (Nat.le_refl _)
              have HNE := Lib.hid hne
              clear hne
              have t0 := box1_at wr #[.int .i64 y1, .int .i64 y2, .int .i64 y3] 69 0 _ rfl
              have t1 := box1_at wr #[.int .i64 y1, .int .i64 y2, .int .i64 y3] 69 1 _ rfl
              have t2 := box1_at wr #[.int .i64 y1, .int .i64 y2, .int .i64 y3] 69 2 _ rfl
              have HT0 := Lib.hid (And.intro t0 (And.intro t1 t2))
              clear t0 t1 t2
              go_wp2_with fail
              go_region_held3 (fun w' => w'.cell? ⟨wr.heap.size, 0, none⟩ = some (.int .i64 y1) ∧ w'.cell? ⟨wr.heap.size, 1, none⟩ = some (.int .i64 y2) ∧ w'.cell? ⟨wr.heap.size, 2, none⟩ = some (.int .i64 y3))
                (first | go_keep | (exact ⟨HT0.out.1, HT0.out.2.1, HT0.out.2.2⟩) | (exact ⟨HE33.out.cell (cell_keep (below_alloc _ _).drew HT0.out.1) HNE.out, HE33.out.cell (cell_keep (below_alloc _ _).drew HT0.out.2.1) HNE.out, HE33.out.cell (cell_keep (below_alloc _ _).drew HT0.out.2.2) HNE.out⟩) | (exact ⟨HE34.out.cell (HE33.out.cell (cell_keep (below_alloc _ _).drew HT0.out.1) HNE.out) (HE33.out.ne (by simp [drew_size] <;> omega) HNE.out), HE34.out.cell (HE33.out.cell (cell_keep (below_alloc _ _).drew HT0.out.2.1) HNE.out) (HE33.out.ne (by simp [drew_size] <;> omega) HNE.out), HE34.out.cell (HE33.out.cell (cell_keep (below_alloc _ _).drew HT0.out.2.2) HNE.out) (HE33.out.ne (by simp [drew_size] <;> omega) HNE.out)⟩))
                  ((first
                    | (go_at_call 49; (with_reducible refine (put2at HO33 p3 (by omega) (since_size HB33.out) HR33 (by with_reducible first | exact Below.refl _ _ | exact (Below.refl _ _).drew | exact below_alloc _ _ | exact (below_alloc _ _).drew | exact below_step (below_alloc _ _) (below_alloc _ _) | exact (below_step (below_alloc _ _) (below_alloc _ _)).drew)).mono ?_); rintro e w34 ⟨v34, rfl, ho, hb, he⟩; have HE34 := Lib.hid he; have HO34 := Lib.hid ho; have HB34 := Lib.hid (since_ext HB33.out hb HO33.out); clear ho hb he)
                    | (refine step_g2 (IntKind.u8.wrap y1) (IntKind.u8.wrap y2) (.tmp 93) (.tmp 100) rfl rfl _ HO31 rfl rfl HR32 (since_size HB31.out) (by with_reducible first | exact Below.refl _ _ | exact (Below.refl _ _).drew | exact below_alloc _ _ | exact (below_alloc _ _).drew | exact below_step (below_alloc _ _) (below_alloc _ _) | exact (below_step (below_alloc _ _) (below_alloc _ _)).drew) (by with_reducible first | exact box_dr (box_new' _ _ _ (by first | rfl | simp)) | exact box_new' _ _ _ (by first | rfl | simp) | exact box_dr (box_al _ (box_new' _ _ _ (by first | rfl | simp))) | exact box_al _ (box_new' _ _ _ (by first | rfl | simp))) ?_; intro v33 w33 ho hb he; have HE33 := Lib.hid he; have HO33 := Lib.hid ho; have HB33 := Lib.hid (since_ext HB31.out hb HO31.out); clear ho hb he)))
              go_wp2
              go_roundw
              case rel =>
                refine ⟨k + 1, by omega, by go_num, ?_, by rw [← HVA.out]; exact HB34.out⟩
                rw [← HVA.out]
                have := HO34.out
                have e1 : IntKind.u8.wrap y1 = y1 % 256 := by rw [IntKind.wrap_u8]
                have e2 : IntKind.u8.wrap y2 = y2 % 256 := by rw [IntKind.wrap_u8]
                rw [HST.out, tyB]
                rw [e1, e2] at this
                have e3 : be y1 1 = [y1 % 256] := by simp [be]
                have e4 : be y2 1 = [y2 % 256] := by simp [be]
                rw [e3, e4]
                simpa only [List.append_assoc, List.cons_append, List.nil_append] using this
              case measure => exact own_meas hlt
            · obtain rfl : n0 = k := by omega
              have ho32 := HO31.out
              rw [List.take_of_length_le (by have := HL0.out; omega)] at ho32
              have HO32 := Lib.hid ho32
              clear ho32 HO31
              have x1 := since_cell HB31.out 1 _ rfl
              go_wp2
              clear x1
              go_loopw [6, 14, 109] (fun v _ i wr => ∃ j : Nat, j ≤ n1 ∧ i = .int .i64 j ∧ Own8 wr (bs w #[.slice A0 n0 c0, .slice A1 n1 c1, .slice A2 n2 c2, .slice A3 n3 c3, .int .i64 sz]) v ((((([239, 0, 1, 1] ++ be (4 * (n0 : Int)) 2 ++ [2] ++ be n1 2) ++ ((lens c.codes).flatMap fun x => be x 2)) ++ part3 (lens c.subs)) ++ [255] ++ be sz 2 ++ [0]) ++ c.types.flatMap tyB ++ (c.codes.take j).flatten) ∧ Since w #[.slice A0 n0 c0, .slice A1 n1 c1, .slice A2 n2 c2, .slice A3 n3 c3, .int .i64 sz] wr) (fun _ _ i _ => n1 - (intOf i).toNat)
              case atStart => exact ⟨0, Nat.zero_le _, rfl, by have := HO32.out; simpa using this, HB31.out⟩
              case round =>
                obtain ⟨j, hj, rfl, ho, hb⟩ := hrel
                have HO33 := Lib.hid ho
                have HB33 := Lib.hid hb
                clear ho hb HO32
                by_cases hlj : j < n1
                · have hk2 : j < c.codes.length := by have := HL1.out; omega
                  have hst := flatten_snoc c.codes j hk2
                  obtain ⟨b1, o1, hA1, hcc⟩ := (HC.out.mono (since_below HB33.out)).2 (by omega)
                  obtain ⟨p, hcell, hp⟩ := hcc j hk2
                  have hsum := sumL_snoc c.codes j hk2
                  have hbd := sumL_take_le 65535 c.codes (j + 1) (fun l hl => (HM.out.code l hl).2)
                  obtain ⟨l, hl⟩ : ∃ l, l = c.codes.getD j [] := ⟨_, rfl⟩
                  rw [← hl] at hp hst hsum
                  have HP := Lib.hid hp
                  have HST := Lib.hid hst
                  have HR7 : Hid (((((([239, 0, 1, 1] ++ be (4 * (n0 : Int)) 2 ++ [2] ++ be n1 2) ++ ((lens c.codes).flatMap fun x => be x 2)) ++ part3 (lens c.subs)) ++ [255] ++ be sz 2 ++ [0]) ++ c.types.flatMap tyB ++ (c.codes.take j).flatten).length + l.length ≤ reach) := Lib.hid (by
                    simp only [List.length_append, be_length, List.length_cons, List.length_nil, lens_flat_length, tysB_length]
                    have := HP3.out; have := HL1.out; have := HL2.out; have := HL0.out
                    have h8 : c.codes.length * 65535 ≤ 1024 * 65535 := Nat.mul_le_mul_right _ (by omega)
                    unfold sumL at hsum hbd
                    unfold reach
                    omega)
                  subst hA1
                  clear hl hst hsum hbd hp hcc
                  go_wp2_with (at_builtin; refine app_list (.tmp 113) (.tmp 114) rfl rfl _ _ _ _ l rfl HO33 rfl HP (since_size HB33.out) HR7 ?_)
                  intro v34 w34 ho hb
                  have HO34 := Lib.hid ho
                  have HB34 := Lib.hid (since_trans HB33.out hb)
                  clear ho hb
                  go_wp2
                  go_roundw
                  case rel => exact ⟨j + 1, by omega, by go_num, by have := HO34.out; rw [HST.out]; simpa only [List.append_assoc, List.cons_append, List.nil_append] using this, HB34.out⟩
                  case measure => exact own_meas hlj
                · obtain rfl : n1 = j := by omega
                  have ho34 := HO33.out
                  rw [List.take_of_length_le (by have := HL1.out; omega)] at ho34
                  have HO34 := Lib.hid ho34
                  clear ho34 HO33
                  have x2 := since_cell HB33.out 2 _ rfl
                  go_wp2
                  clear x2
                  go_loopw [6, 16, 120] (fun v _ i wr => ∃ i3 : Nat, i3 ≤ n2 ∧ i = .int .i64 i3 ∧ Own8 wr (bs w #[.slice A0 n0 c0, .slice A1 n1 c1, .slice A2 n2 c2, .slice A3 n3 c3, .int .i64 sz]) v ((((([239, 0, 1, 1] ++ be (4 * (n0 : Int)) 2 ++ [2] ++ be n1 2) ++ ((lens c.codes).flatMap fun x => be x 2)) ++ part3 (lens c.subs)) ++ [255] ++ be sz 2 ++ [0]) ++ c.types.flatMap tyB ++ c.codes.flatten ++ (c.subs.take i3).flatten) ∧ Since w #[.slice A0 n0 c0, .slice A1 n1 c1, .slice A2 n2 c2, .slice A3 n3 c3, .int .i64 sz] wr) (fun _ _ i _ => n2 - (intOf i).toNat)
                  case atStart => exact ⟨0, Nat.zero_le _, rfl, by have := HO34.out; simpa using this, HB33.out⟩
                  case round =>
                    obtain ⟨i3, hj3, rfl, ho, hb⟩ := hrel
                    have HO35 := Lib.hid ho
                    have HB35 := Lib.hid hb
                    clear ho hb HO34
                    have hbc := sumL_le 65535 c.codes (fun l hl => (HM.out.code l hl).2)
                    by_cases hl3 : i3 < n2
                    · have hk2 : i3 < c.subs.length := by have := HL2.out; omega
                      have hst := flatten_snoc c.subs i3 hk2
                      obtain ⟨b1, o1, hA2, hcc⟩ := (HS.out.mono (since_below HB35.out)).2 (by omega)
                      obtain ⟨p, hcell, hp⟩ := hcc i3 hk2
                      have hsum := sumL_snoc c.subs i3 hk2
                      have hbd := sumL_take_le 4294967295 c.subs (i3 + 1) (fun l hl => (HM.out.sub l hl).2)
                      obtain ⟨l, hl⟩ : ∃ l, l = c.subs.getD i3 [] := ⟨_, rfl⟩
                      rw [← hl] at hp hst hsum
                      have HP := Lib.hid hp
                      have HST := Lib.hid hst
                      have HR9 : Hid (((((([239, 0, 1, 1] ++ be (4 * (n0 : Int)) 2 ++ [2] ++ be n1 2) ++ ((lens c.codes).flatMap fun x => be x 2)) ++ part3 (lens c.subs)) ++ [255] ++ be sz 2 ++ [0]) ++ c.types.flatMap tyB ++ c.codes.flatten ++ (c.subs.take i3).flatten).length + l.length ≤ reach) := Lib.hid (by
                        simp only [List.length_append, be_length, List.length_cons, List.length_nil, lens_flat_length, tysB_length]
                        have := HP3.out; have := HL1.out; have := HL2.out; have := HL0.out
                        have h8 : c.codes.length * 65535 ≤ 1024 * 65535 := Nat.mul_le_mul_right _ (by omega)
                        have h7 : c.subs.length * 4294967295 ≤ 256 * 4294967295 := Nat.mul_le_mul_right _ (by omega)
                        unfold sumL at hsum hbd hbc
                        unfold reach
                        omega)
                      subst hA2
                      clear hl hst hsum hbd hp hcc hbc
                      go_wp2_with (at_builtin; refine app_list (.tmp 124) (.tmp 125) rfl rfl _ _ _ _ l rfl HO35 rfl HP (since_size HB35.out) HR9 ?_)
                      intro v36 w36 ho hb
                      have HO36 := Lib.hid ho
                      have HB36 := Lib.hid (since_trans HB35.out hb)
                      clear ho hb
                      go_wp2
                      go_roundw
                      case rel => exact ⟨i3 + 1, by omega, by go_num, by have := HO36.out; rw [HST.out]; simpa only [List.append_assoc, List.cons_append, List.nil_append] using this, HB36.out⟩
                      case measure => exact own_meas hl3
                    · obtain rfl : n2 = i3 := by omega
                      have ho36 := HO35.out
                      rw [List.take_of_length_le (by have := HL2.out; omega)] at ho36
                      have HO36 := Lib.hid ho36
                      clear ho36 HO35
                      have x3 := since_cell HB35.out 3 _ rfl
                      have HP := Lib.hid (HD.out.mono (since_below HB35.out))
                      have HR10 : Hid (((((([239, 0, 1, 1] ++ be (4 * (n0 : Int)) 2 ++ [2] ++ be n1 2) ++ ((lens c.codes).flatMap fun x => be x 2)) ++ part3 (lens c.subs)) ++ [255] ++ be sz 2 ++ [0]) ++ c.types.flatMap tyB ++ c.codes.flatten ++ c.subs.flatten).length + c.data.length ≤ reach) := Lib.hid (by
                        simp only [List.length_append, be_length, List.length_cons, List.length_nil, lens_flat_length, tysB_length]
                        have := HP3.out; have := HL1.out; have := HL2.out; have := HL0.out; have := HL3.out
                        have h8 : c.codes.length * 65535 ≤ 1024 * 65535 := Nat.mul_le_mul_right _ (by omega)
                        have h7 : c.subs.length * 4294967295 ≤ 256 * 4294967295 := Nat.mul_le_mul_right _ (by omega)
                        have hbd := sumL_le 4294967295 c.subs (fun l hl => (HM.out.sub l hl).2)
                        unfold sumL at hbd hbc
                        unfold reach
                        omega)
                      clear hbc
                      go_wp2_with (at_builtin; refine app_list (.tmp 128) (.tmp 130) rfl rfl _ _ _ _ c.data rfl HO36 rfl HP (since_size HB35.out) HR10 ?_)
                      intro v37 w37 ho hb
                      have HO37 := Lib.hid ho
                      have HB37 := Lib.hid (since_trans HB35.out hb)
                      clear ho hb
                      go_wp2
                      go_ret2
                      refine ⟨v37, rfl, ?_, since_below HB37.out⟩
                      have := HO37.out
                      have e9 : serB c = (((([239, 0, 1, 1] ++ be (4 * (n0 : Int)) 2 ++ [2] ++ be n1 2) ++ ((lens c.codes).flatMap fun x => be x 2)) ++ part3 (lens c.subs)) ++ [255] ++ be sz 2 ++ [0]) ++ c.types.flatMap tyB ++ c.codes.flatten ++ c.subs.flatten ++ c.data := by
                        rw [serB, HSZ.out, headB, lens_length, HL1.out, GN.out]
                      rw [e9]
                      simpa only [List.append_assoc, List.cons_append, List.nil_append] using this

/-- Serialize. -/
theorem ser_any (v : Value) (c : Cont) (w : World) (h : ContV w v c) :
    Calls Try.prog 25 #[v] w fun e w' => ∃ v', e = .returned (.tuple #[v', .int .i64 (checkErr c)]) ∧ Own8 w' w.heap.size v' (serR c) ∧ Below w.heap.size w w' := by
  have h' := fun va : Array Value => h.mono (below_alloc w (.cells va 28))
  obtain ⟨vt, vc, vs, vd, rfl, ⟨A0, c0, rfl, _, _, _, ht⟩, ⟨A1, c1, rfl, _, _, hc⟩, ⟨A2, c2, rfl, _, _, hs⟩, hd⟩ := h
  have hd' := hd
  obtain ⟨A3, c3, rfl, _⟩ := hd'
  have hk := fun va => size_any _ _ _ (h' va)
  by_cases e0 : checkErr c = 0
  · have hm := may_of c e0
    simp only [serR, e0, if_true]
    have e1 : sizeN c = ((serB c).length : Int) := by rw [sizeN, if_pos e0]
    simp only [e0, e1] at hk
    have hlen : (serB c).length ≤ 4398046511104 := by
      rw [serB_length c hm.types]
      have h1 := sumL_le 65535 c.codes (fun l hl => (hm.code l hl).2)
      have h2 := sumL_le 4294967295 c.subs (fun l hl => (hm.sub l hl).2)
      have := hm.codes2; have := hm.subs; have := hm.data; have := hm.size
      have h8 : c.codes.length * 65535 ≤ 1024 * 65535 := Nat.mul_le_mul_right _ (by omega)
      have h7 : c.subs.length * 4294967295 ≤ 256 * 4294967295 := Nat.mul_le_mul_right _ (by omega)
      split <;> omega
    refine (ser_yes A0 A1 A2 A3 _ _ _ _ c0 c1 c2 c3 c w _ _ hlen rfl rfl rfl rfl rfl hm ht hc hs hd (hk _)).mono ?_
    rintro e w' ⟨v', he, ho, hb⟩
    exact ⟨v', he, ho.base (by simp [bs]), hb⟩
  · rw [serR, if_neg e0]
    refine (ser_no _ e0 A0 A1 A2 A3 _ _ _ _ c0 c1 c2 c3 _ w _ (hk _)).mono ?_
    rintro e w' ⟨he, hb⟩
    exact ⟨_, he, Own8.nil _ _, hb⟩
end Go.Proofs.Ytkbboepopcebaaa
