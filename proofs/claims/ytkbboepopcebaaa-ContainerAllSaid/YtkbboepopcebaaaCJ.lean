/- two: a number in two bytes; bytes: those of a container that may be. -/
import Derived.Test.YtkbboepopcebaaaCD
namespace Go.Proofs.Ytkbboepopcebaaa
open Go.RowKit

set_option maxRecDepth 100000 in
theorem two_at (x a b : Int) (h0 : 0 ≤ x) (h1 : x ≤ 4294967296) (h : be x 2 = [a, b]) (W : World) : Calls Try.prog 50 #[.int .i64 x] W fun e w' => e = .returned (.slice (some ⟨W.heap.size, 0, none⟩) 2 2) ∧ w' = W.alloc (.cells #[.int .u8 a, .int .u8 b] 5) := by
  simp [be] at h
  obtain ⟨rfl, rfl⟩ := h
  go_enter Try.func50, Try.ntmps50
  go_wp2
  go_ret
  exact ⟨rfl, rfl⟩
theorem be_two (x : Int) : ∃ a b, be x 2 = [a, b] := ⟨_, _, rfl⟩
theorem be_four (x : Int) : be x 4 = be (x / 65536) 2 ++ be x 2 := by
  simp [be]
  omega

set_option maxRecDepth 100000 in
set_option maxHeartbeats 16000000 in
theorem bytes_yes (A0 A1 A2 A3 : Option Addr) (n0 n1 n2 n3 c0 c1 c2 c3 : Nat) (c : Cont) (w : World) (s : Int) (hsz : c.size = s) (hl0 : c.types.length = n0) (hl1 : c.codes.length = n1) (hl2 : c.subs.length = n2) (hl3 : c.data.length = n3) (hm : May c)
    (ht : CellsR w A0 (tysOf c.types)) (hc : PartsR w A1 c.codes) (hs : PartsR w A2 c.subs) (hd : NumsV w .u8 (.slice A3 n3 c3) c.data) :
    Calls Try.prog 28 #[.agg #[.slice A0 n0 c0, .slice A1 n1 c1, .slice A2 n2 c2, .slice A3 n3 c3, .int .i64 s]] w fun e w' => ∃ v, e = .returned v ∧ Own8 w' (bs w #[.slice A0 n0 c0, .slice A1 n1 c1, .slice A2 n2 c2, .slice A3 n3 c3, .int .i64 s]) v (serB c) ∧ Below w.heap.size w w' := by
  have HSZ := Lib.hid hsz; clear hsz
  have HL0 := Lib.hid hl0; clear hl0
  have HL1 := Lib.hid hl1; clear hl1
  have HL2 := Lib.hid hl2; clear hl2
  have HL3 := Lib.hid hl3; clear hl3
  have HM := Lib.hid hm; clear hm
  have HT := Lib.hid ht; clear ht
  have HC := Lib.hid hc; clear hc
  have HS := Lib.hid hs; clear hs
  have HD := Lib.hid hd; clear hd
  have gs : 0 ≤ s := by have := HM.out.data; have := HSZ.out; omega
  have gs1 : s ≤ 65535 := by have := HM.out.size; have := HSZ.out; omega
  have gn1 : n1 ≤ 1024 := by have := HM.out.codes2; have := HL1.out; omega
  have gn0 : n0 ≤ 1024 := by have := HM.out.codes2; have := HM.out.types; have := HL0.out; omega
  have gn2 : n2 ≤ 256 := by have := HM.out.subs; have := HL2.out; omega
  have gn3 : n3 ≤ 65535 := by have := HM.out.data; have := HL3.out; have := HSZ.out; omega
  have gn01 : n0 = n1 := by have := HM.out.types; have := HL0.out; have := HL1.out; omega
  have GN := Lib.hid gn01; clear gn01
  obtain ⟨a1, ha1⟩ : ∃ a1, a1 = 4 * n1 := ⟨_, rfl⟩
  have hw1 : IntKind.i64.wrap (4 * (n1 : Int)) = (a1 : Int) := by rw [IntWalk.i64_in _ (by omega)]; omega
  have HA1 : Hid (((a1 : Nat) : Int) = 4 * (n1 : Int)) := Lib.hid (by omega)
  have HAB : Hid (a1 ≤ 4096) := Lib.hid (by omega)
  have HGN : Hid (n0 ≤ 1024 ∧ n1 ≤ 1024 ∧ n2 ≤ 256 ∧ n3 ≤ 65535 ∧ 0 ≤ s ∧ s ≤ 65535) := Lib.hid ⟨gn0, gn1, gn2, gn3, gs, gs1⟩
  clear ha1 gs gs1 gn0 gn1 gn2 gn3
  go_enter Try.func28, Try.ntmps28
  go_upto_region 2 with (fail)
  have ho2 := own_lit (w.alloc (.cells #[.slice A0 n0 c0, .slice A1 n1 c1, .slice A2 n2 c2, .slice A3 n3 c3, .int .i64 s] 28)) #[.int .u8 239, .int .u8 0, .int .u8 1] 5 3 rfl (by decide)
  have hb2 : Since w #[.slice A0 n0 c0, .slice A1 n1 c1, .slice A2 n2 c2, .slice A3 n3 c3, .int .i64 s] ((w.alloc (.cells #[.slice A0 n0 c0, .slice A1 n1 c1, .slice A2 n2 c2, .slice A3 n3 c3, .int .i64 s] 28)).alloc (.cells #[.int .u8 239, .int .u8 0, .int .u8 1] 5)) := since_alloc (since_refl _ _) _
  have hz2 : (w.alloc (.cells #[.slice A0 n0 c0, .slice A1 n1 c1, .slice A2 n2 c2, .slice A3 n3 c3, .int .i64 s] 28)).heap.size = w.heap.size + 1 := by simp
  obtain ⟨w2, hw⟩ : ∃ w2, w2 = (w.alloc (.cells #[.slice A0 n0 c0, .slice A1 n1 c1, .slice A2 n2 c2, .slice A3 n3 c3, .int .i64 s] 28)).alloc (.cells #[.int .u8 239, .int .u8 0, .int .u8 1] 5) := ⟨_, rfl⟩
  obtain ⟨gA, hgA⟩ : ∃ gA, gA = w.heap.size + 1 := ⟨_, rfl⟩
  rw [← hw] at ho2 hb2 ⊢
  have HO2 : Hid (Own8 w2 (bs w #[.slice A0 n0 c0, .slice A1 n1 c1, .slice A2 n2 c2, .slice A3 n3 c3, .int .i64 s]) (.slice (some ⟨gA, 0, none⟩) 3 3) [239, 0, 1]) := Lib.hid (by rw [hz2, ← hgA] at ho2; unfold Own8 bs; rw [hz2, ← hgA]; exact ho2)
  have HB2 := Lib.hid hb2
  rw [← hgA]
  clear ho2 hb2 hz2 hw hgA
  obtain ⟨y3a, y3b, hab3⟩ := be_two ((a1 : Nat) : Int)
  have HAB3 := Lib.hid hab3
  have HC3 : Hid ((([239, 0, 1] : List Int) ++ [1]) ++ [y3a, y3b] = [239, 0, 1, 1] ++ be (4 * (n1 : Int)) 2) := Lib.hid (by rw [← hab3]; rw [HA1.out]; try rfl)
  have HR3 : Hid ((([239, 0, 1] : List Int)).length + 1 ≤ reach) := Lib.hid (by have := HGN.out; have := HAB.out; simp only [List.length_append, be_length, List.length_cons, List.length_nil, lens_flat_length]; unfold reach; omega)
  have HR3q : Hid ((([239, 0, 1] : List Int) ++ [1]).length + 2 ≤ reach) := Lib.hid (by have := HGN.out; have := HAB.out; simp only [List.length_append, be_length, List.length_cons, List.length_nil, lens_flat_length]; unfold reach; omega)
  have HX3 : Hid (0 ≤ ((a1 : Nat) : Int) ∧ ((a1 : Nat) : Int) ≤ 4294967296) := Lib.hid (by have := HAB.out; omega)
  clear hab3
  go_upto_region 2 with (fail)
  go_cut [3] (fun v wx => Own8 wx (bs w #[.slice A0 n0 c0, .slice A1 n1 c1, .slice A2 n2 c2, .slice A3 n3 c3, .int .i64 s]) v ([239, 0, 1, 1] ++ be (4 * (n1 : Int)) 2) ∧ Since w #[.slice A0 n0 c0, .slice A1 n1 c1, .slice A2 n2 c2, .slice A3 n3 c3, .int .i64 s] wx)
  case first =>
    have xk := since_cell HB2.out 1 _ rfl
    go_region_held3 (fun w' => w'.cell? ⟨w.heap.size, 1, none⟩ = some (.slice A1 n1 c1))
      (first | go_keep | (exact since_cell (since_step HB2.out (Below.refl _ _)) 1 _ rfl) | (exact since_cell (since_step HB2.out (below_step (Below.refl _ _) (below_alloc _ _))) 1 _ rfl) | (exact since_cell (since_step HB2.out (Below.refl _ _).drew) 1 _ rfl) | (exact since_cell (since_step HB2.out (below_step (below_step (Below.refl _ _) (below_alloc _ _)) (below_alloc _ _))) 1 _ rfl) | (exact since_cell (since_step HB2.out (below_step (Below.refl _ _) (below_alloc _ _)).drew) 1 _ rfl) | (exact since_cell (since_step HB2.out (below_step (Below.refl _ _).drew (below_alloc _ _))) 1 _ rfl) | (exact since_cell (since_step HB2.out (below_step (below_step (Below.refl _ _) (below_alloc _ _)) (below_alloc _ _)).drew) 1 _ rfl) | (exact since_cell (since_step HB2.out (below_step (below_step (Below.refl _ _) (below_alloc _ _)).drew (below_alloc _ _))) 1 _ rfl) | (exact since_cell (since_step HB2.out (below_step (below_step (Below.refl _ _).drew (below_alloc _ _)) (below_alloc _ _))) 1 _ rfl) | (exact since_cell (since_step HBp3.out (Below.refl _ _)) 1 _ rfl) | (exact since_cell (since_step HBp3.out (below_step (Below.refl _ _) (below_alloc _ _))) 1 _ rfl) | (exact since_cell (since_step HBp3.out (Below.refl _ _).drew) 1 _ rfl) | (exact since_cell (since_step HBp3.out (below_step (below_step (Below.refl _ _) (below_alloc _ _)) (below_alloc _ _))) 1 _ rfl) | (exact since_cell (since_step HBp3.out (below_step (Below.refl _ _) (below_alloc _ _)).drew) 1 _ rfl) | (exact since_cell (since_step HBp3.out (below_step (Below.refl _ _).drew (below_alloc _ _))) 1 _ rfl) | (exact since_cell (since_step HBp3.out (below_step (below_step (Below.refl _ _) (below_alloc _ _)) (below_alloc _ _)).drew) 1 _ rfl) | (exact since_cell (since_step HBp3.out (below_step (below_step (Below.refl _ _) (below_alloc _ _)).drew (below_alloc _ _))) 1 _ rfl) | (exact since_cell (since_step HBp3.out (below_step (below_step (Below.refl _ _).drew (below_alloc _ _)) (below_alloc _ _))) 1 _ rfl) | (exact since_cell (since_step HBq3.out (Below.refl _ _)) 1 _ rfl) | (exact since_cell (since_step HBq3.out (below_step (Below.refl _ _) (below_alloc _ _))) 1 _ rfl) | (exact since_cell (since_step HBq3.out (Below.refl _ _).drew) 1 _ rfl) | (exact since_cell (since_step HBq3.out (below_step (below_step (Below.refl _ _) (below_alloc _ _)) (below_alloc _ _))) 1 _ rfl) | (exact since_cell (since_step HBq3.out (below_step (Below.refl _ _) (below_alloc _ _)).drew) 1 _ rfl) | (exact since_cell (since_step HBq3.out (below_step (Below.refl _ _).drew (below_alloc _ _))) 1 _ rfl) | (exact since_cell (since_step HBq3.out (below_step (below_step (Below.refl _ _) (below_alloc _ _)) (below_alloc _ _)).drew) 1 _ rfl) | (exact since_cell (since_step HBq3.out (below_step (below_step (Below.refl _ _) (below_alloc _ _)).drew (below_alloc _ _))) 1 _ rfl) | (exact since_cell (since_step HBq3.out (below_step (below_step (Below.refl _ _).drew (below_alloc _ _)) (below_alloc _ _))) 1 _ rfl))
      ((first
        | (go_at_call 50; (with_reducible refine (two_at _ y3a y3b HX3.out.1 HX3.out.2 HAB3.out _).mono ?_); rintro e wx ⟨rfl, rfl⟩)
        | (refine step_g1 1 (.tmp 11) (.tmp 12) rfl rfl _ HO2 rfl rfl HR3 (since_size HB2.out) (by with_reducible first | exact (Below.refl _ _) | exact (below_step (Below.refl _ _) (below_alloc _ _)) | exact (Below.refl _ _).drew | exact (below_step (below_step (Below.refl _ _) (below_alloc _ _)) (below_alloc _ _)) | exact (below_step (Below.refl _ _) (below_alloc _ _)).drew | exact (below_step (Below.refl _ _).drew (below_alloc _ _)) | exact (below_step (below_step (Below.refl _ _) (below_alloc _ _)) (below_alloc _ _)).drew | exact (below_step (below_step (Below.refl _ _) (below_alloc _ _)).drew (below_alloc _ _)) | exact (below_step (below_step (Below.refl _ _).drew (below_alloc _ _)) (below_alloc _ _))) (by with_reducible first | exact (box_new' _ _ _ (by first | rfl | simp)) | exact (box_al _ (box_new' _ _ _ (by first | rfl | simp))) | exact (box_dr (box_new' _ _ _ (by first | rfl | simp))) | exact (box_dr (box_al _ (box_new' _ _ _ (by first | rfl | simp)))) | exact (box_al _ (box_dr (box_new' _ _ _ (by first | rfl | simp))))) ?_; intro vp3 wp3 ho hb he; have HEp3 := Lib.hid he; have HOp3 := Lib.hid ho; have HBp3 := Lib.hid (since_ext HB2.out hb HO2.out); clear ho hb he)
        | (refine step_g2 y3a y3b (.tmp 13) (.tmp 18) rfl rfl _ HOp3 rfl rfl HR3q (since_size HBp3.out) (by with_reducible first | exact (Below.refl _ _) | exact (below_step (Below.refl _ _) (below_alloc _ _)) | exact (Below.refl _ _).drew | exact (below_step (Below.refl _ _) (below_alloc _ _)).drew | exact (below_step (Below.refl _ _).drew (below_alloc _ _))) (by with_reducible first | exact (box_new' _ _ _ (by first | rfl | simp)) | exact (box_dr (box_new' _ _ _ (by first | rfl | simp))) | exact (HEp3.out.box (box_new' _ _ _ (by first | rfl | simp)) (own_ne HO2.out (by simp <;> omega))) | exact (HEp3.out.box (box_al _ (box_new' _ _ _ (by first | rfl | simp))) (own_ne HO2.out (by simp <;> omega))) | exact (HEp3.out.box (box_dr (box_new' _ _ _ (by first | rfl | simp))) (own_ne HO2.out (by simp <;> omega))) | exact (HEp3.out.box (box_dr (box_al _ (box_new' _ _ _ (by first | rfl | simp)))) (own_ne HO2.out (by simp <;> omega))) | exact (HEp3.out.box (box_al _ (box_dr (box_new' _ _ _ (by first | rfl | simp)))) (own_ne HO2.out (by simp <;> omega))) | exact (box_dr (HEp3.out.box (box_new' _ _ _ (by first | rfl | simp)) (own_ne HO2.out (by simp <;> omega)))) | exact (box_dr (HEp3.out.box (box_al _ (box_new' _ _ _ (by first | rfl | simp))) (own_ne HO2.out (by simp <;> omega)))) | exact (box_dr (HEp3.out.box (box_dr (box_new' _ _ _ (by first | rfl | simp))) (own_ne HO2.out (by simp <;> omega)))) | exact (box_dr (HEp3.out.box (box_dr (box_al _ (box_new' _ _ _ (by first | rfl | simp)))) (own_ne HO2.out (by simp <;> omega)))) | exact (box_dr (HEp3.out.box (box_al _ (box_dr (box_new' _ _ _ (by first | rfl | simp)))) (own_ne HO2.out (by simp <;> omega))))) ?_; intro vq3 wq3 ho hb he; have HOq3 := Lib.hid ho; have HBq3 := Lib.hid (since_ext HBp3.out hb HOp3.out); clear ho hb he)))
    all_goals (go_wp2_with fail; go_meet; exact ⟨by have := HOq3.out; rwa [HC3.out] at this, HBq3.out⟩)
  case rest =>
    obtain ⟨ho, hb⟩ := hcut
    have HO3 := Lib.hid ho
    have HB3 := Lib.hid hb
    clear ho hb
    have gn0 : n0 ≤ 1024 := HGN.out.1
    have gn1 : n1 ≤ 1024 := HGN.out.2.1
    have gn2 : n2 ≤ 256 := HGN.out.2.2.1
    obtain ⟨y4a, y4b, hab4⟩ := be_two (n1 : Int)
    have HAB4 := Lib.hid hab4
    have HC4 : Hid ((([239, 0, 1, 1] ++ be (4 * (n1 : Int)) 2) ++ [2]) ++ [y4a, y4b] = (([239, 0, 1, 1] ++ be (4 * (n1 : Int)) 2) ++ [2]) ++ be (n1 : Int) 2) := Lib.hid (by rw [← hab4]; try rfl)
    have HR4 : Hid ((([239, 0, 1, 1] ++ be (4 * (n1 : Int)) 2)).length + 1 ≤ reach) := Lib.hid (by have := HGN.out; have := HAB.out; simp only [List.length_append, be_length, List.length_cons, List.length_nil, lens_flat_length]; unfold reach; omega)
    have HR4q : Hid ((([239, 0, 1, 1] ++ be (4 * (n1 : Int)) 2) ++ [2]).length + 2 ≤ reach) := Lib.hid (by have := HGN.out; have := HAB.out; simp only [List.length_append, be_length, List.length_cons, List.length_nil, lens_flat_length]; unfold reach; omega)
    have HX4 : Hid (0 ≤ (n1 : Int) ∧ (n1 : Int) ≤ 4294967296) := Lib.hid (by have := HGN.out; omega)
    clear hab4
    go_upto_region 3 with (fail)
    go_cut [3] (fun v wx => Own8 wx (bs w #[.slice A0 n0 c0, .slice A1 n1 c1, .slice A2 n2 c2, .slice A3 n3 c3, .int .i64 s]) v ((([239, 0, 1, 1] ++ be (4 * (n1 : Int)) 2) ++ [2]) ++ be (n1 : Int) 2) ∧ Since w #[.slice A0 n0 c0, .slice A1 n1 c1, .slice A2 n2 c2, .slice A3 n3 c3, .int .i64 s] wx)
    case first =>
      have xk := since_cell HB3.out 1 _ rfl
      go_region_held3 (fun w' => w'.cell? ⟨w.heap.size, 1, none⟩ = some (.slice A1 n1 c1))
        (first | go_keep | (exact since_cell (since_step HB3.out (Below.refl _ _)) 1 _ rfl) | (exact since_cell (since_step HB3.out (below_step (Below.refl _ _) (below_alloc _ _))) 1 _ rfl) | (exact since_cell (since_step HB3.out (Below.refl _ _).drew) 1 _ rfl) | (exact since_cell (since_step HB3.out (below_step (below_step (Below.refl _ _) (below_alloc _ _)) (below_alloc _ _))) 1 _ rfl) | (exact since_cell (since_step HB3.out (below_step (Below.refl _ _) (below_alloc _ _)).drew) 1 _ rfl) | (exact since_cell (since_step HB3.out (below_step (Below.refl _ _).drew (below_alloc _ _))) 1 _ rfl) | (exact since_cell (since_step HB3.out (below_step (below_step (Below.refl _ _) (below_alloc _ _)) (below_alloc _ _)).drew) 1 _ rfl) | (exact since_cell (since_step HB3.out (below_step (below_step (Below.refl _ _) (below_alloc _ _)).drew (below_alloc _ _))) 1 _ rfl) | (exact since_cell (since_step HB3.out (below_step (below_step (Below.refl _ _).drew (below_alloc _ _)) (below_alloc _ _))) 1 _ rfl) | (exact since_cell (since_step HBp4.out (Below.refl _ _)) 1 _ rfl) | (exact since_cell (since_step HBp4.out (below_step (Below.refl _ _) (below_alloc _ _))) 1 _ rfl) | (exact since_cell (since_step HBp4.out (Below.refl _ _).drew) 1 _ rfl) | (exact since_cell (since_step HBp4.out (below_step (below_step (Below.refl _ _) (below_alloc _ _)) (below_alloc _ _))) 1 _ rfl) | (exact since_cell (since_step HBp4.out (below_step (Below.refl _ _) (below_alloc _ _)).drew) 1 _ rfl) | (exact since_cell (since_step HBp4.out (below_step (Below.refl _ _).drew (below_alloc _ _))) 1 _ rfl) | (exact since_cell (since_step HBp4.out (below_step (below_step (Below.refl _ _) (below_alloc _ _)) (below_alloc _ _)).drew) 1 _ rfl) | (exact since_cell (since_step HBp4.out (below_step (below_step (Below.refl _ _) (below_alloc _ _)).drew (below_alloc _ _))) 1 _ rfl) | (exact since_cell (since_step HBp4.out (below_step (below_step (Below.refl _ _).drew (below_alloc _ _)) (below_alloc _ _))) 1 _ rfl) | (exact since_cell (since_step HBq4.out (Below.refl _ _)) 1 _ rfl) | (exact since_cell (since_step HBq4.out (below_step (Below.refl _ _) (below_alloc _ _))) 1 _ rfl) | (exact since_cell (since_step HBq4.out (Below.refl _ _).drew) 1 _ rfl) | (exact since_cell (since_step HBq4.out (below_step (below_step (Below.refl _ _) (below_alloc _ _)) (below_alloc _ _))) 1 _ rfl) | (exact since_cell (since_step HBq4.out (below_step (Below.refl _ _) (below_alloc _ _)).drew) 1 _ rfl) | (exact since_cell (since_step HBq4.out (below_step (Below.refl _ _).drew (below_alloc _ _))) 1 _ rfl) | (exact since_cell (since_step HBq4.out (below_step (below_step (Below.refl _ _) (below_alloc _ _)) (below_alloc _ _)).drew) 1 _ rfl) | (exact since_cell (since_step HBq4.out (below_step (below_step (Below.refl _ _) (below_alloc _ _)).drew (below_alloc _ _))) 1 _ rfl) | (exact since_cell (since_step HBq4.out (below_step (below_step (Below.refl _ _).drew (below_alloc _ _)) (below_alloc _ _))) 1 _ rfl))
        ((first
          | (go_at_call 50; (with_reducible refine (two_at _ y4a y4b HX4.out.1 HX4.out.2 HAB4.out _).mono ?_); rintro e wx ⟨rfl, rfl⟩)
          | (refine step_g1 2 (.tmp 20) (.tmp 21) rfl rfl _ HO3 rfl rfl HR4 (since_size HB3.out) (by with_reducible first | exact (Below.refl _ _) | exact (below_step (Below.refl _ _) (below_alloc _ _)) | exact (Below.refl _ _).drew | exact (below_step (below_step (Below.refl _ _) (below_alloc _ _)) (below_alloc _ _)) | exact (below_step (Below.refl _ _) (below_alloc _ _)).drew | exact (below_step (Below.refl _ _).drew (below_alloc _ _)) | exact (below_step (below_step (Below.refl _ _) (below_alloc _ _)) (below_alloc _ _)).drew | exact (below_step (below_step (Below.refl _ _) (below_alloc _ _)).drew (below_alloc _ _)) | exact (below_step (below_step (Below.refl _ _).drew (below_alloc _ _)) (below_alloc _ _))) (by with_reducible first | exact (box_new' _ _ _ (by first | rfl | simp)) | exact (box_al _ (box_new' _ _ _ (by first | rfl | simp))) | exact (box_dr (box_new' _ _ _ (by first | rfl | simp))) | exact (box_dr (box_al _ (box_new' _ _ _ (by first | rfl | simp)))) | exact (box_al _ (box_dr (box_new' _ _ _ (by first | rfl | simp))))) ?_; intro vp4 wp4 ho hb he; have HEp4 := Lib.hid he; have HOp4 := Lib.hid ho; have HBp4 := Lib.hid (since_ext HB3.out hb HO3.out); clear ho hb he)
          | (refine step_g2 y4a y4b (.tmp 22) (.tmp 26) rfl rfl _ HOp4 rfl rfl HR4q (since_size HBp4.out) (by with_reducible first | exact (Below.refl _ _) | exact (below_step (Below.refl _ _) (below_alloc _ _)) | exact (Below.refl _ _).drew | exact (below_step (Below.refl _ _) (below_alloc _ _)).drew | exact (below_step (Below.refl _ _).drew (below_alloc _ _))) (by with_reducible first | exact (box_new' _ _ _ (by first | rfl | simp)) | exact (box_dr (box_new' _ _ _ (by first | rfl | simp))) | exact (HEp4.out.box (box_new' _ _ _ (by first | rfl | simp)) (own_ne HO3.out (by simp <;> omega))) | exact (HEp4.out.box (box_al _ (box_new' _ _ _ (by first | rfl | simp))) (own_ne HO3.out (by simp <;> omega))) | exact (HEp4.out.box (box_dr (box_new' _ _ _ (by first | rfl | simp))) (own_ne HO3.out (by simp <;> omega))) | exact (HEp4.out.box (box_dr (box_al _ (box_new' _ _ _ (by first | rfl | simp)))) (own_ne HO3.out (by simp <;> omega))) | exact (HEp4.out.box (box_al _ (box_dr (box_new' _ _ _ (by first | rfl | simp)))) (own_ne HO3.out (by simp <;> omega))) | exact (box_dr (HEp4.out.box (box_new' _ _ _ (by first | rfl | simp)) (own_ne HO3.out (by simp <;> omega)))) | exact (box_dr (HEp4.out.box (box_al _ (box_new' _ _ _ (by first | rfl | simp))) (own_ne HO3.out (by simp <;> omega)))) | exact (box_dr (HEp4.out.box (box_dr (box_new' _ _ _ (by first | rfl | simp))) (own_ne HO3.out (by simp <;> omega)))) | exact (box_dr (HEp4.out.box (box_dr (box_al _ (box_new' _ _ _ (by first | rfl | simp)))) (own_ne HO3.out (by simp <;> omega)))) | exact (box_dr (HEp4.out.box (box_al _ (box_dr (box_new' _ _ _ (by first | rfl | simp)))) (own_ne HO3.out (by simp <;> omega))))) ?_; intro vq4 wq4 ho hb he; have HOq4 := Lib.hid ho; have HBq4 := Lib.hid (since_ext HBp4.out hb HOp4.out); clear ho hb he)))
      all_goals (go_wp2_with fail; go_meet; exact ⟨by have := HOq4.out; rwa [HC4.out] at this, HBq4.out⟩)
    case rest =>
      obtain ⟨ho, hb⟩ := hcut
      have HO4 := Lib.hid ho
      have HB4 := Lib.hid hb
      clear ho hb
      go_wp2
      go_loopw [3, 4] (fun v i wr => ∃ k : Nat, k ≤ n1 ∧ i = .int .i64 k ∧ Own8 wr (bs w #[.slice A0 n0 c0, .slice A1 n1 c1, .slice A2 n2 c2, .slice A3 n3 c3, .int .i64 s]) v (((([239, 0, 1, 1] ++ be (4 * (n1 : Int)) 2) ++ [2]) ++ be (n1 : Int) 2) ++ ((lens (c.codes.take k)).flatMap fun x => be x 2)) ∧ Since w #[.slice A0 n0 c0, .slice A1 n1 c1, .slice A2 n2 c2, .slice A3 n3 c3, .int .i64 s] wr) (fun _ i _ => n1 - (intOf i).toNat)
      case atStart => exact ⟨0, Nat.zero_le _, rfl, by have := HO4.out; simpa [lens] using this, HB4.out⟩
      case round =>
        obtain ⟨k, hk, rfl, ho, hb⟩ := hrel
        have HO5 := Lib.hid ho
        have HB5 := Lib.hid hb
        clear ho hb HO4 HO3 HO2
        have x1 := since_cell HB5.out 1 _ rfl
        by_cases hlt : k < n1
        · have hk2 : k < c.codes.length := by have := HL1.out; omega
          have hst := lens_snoc c.codes 2 k hk2
          obtain ⟨b1, o1, rfl, hcc⟩ := (HC.out.mono (since_below HB5.out)).2 (by omega)
          obtain ⟨p, hcell, B1, d1, rfl, _, _, _⟩ := hcc k hk2
          have hcb := (HM.out.code (c.codes.getD k []) (by rw [show c.codes.getD k [] = c.codes[k] by simp [List.getD_eq_getElem?_getD, hk2]]; exact List.getElem_mem _)).2
          obtain ⟨m, hm⟩ : ∃ m, m = (c.codes.getD k []).length := ⟨_, rfl⟩
          rw [← hm] at hcell hst hcb
          obtain ⟨ya, yb, hab⟩ := be_two (m : Int)
          have HST := Lib.hid hst
          have HABL := Lib.hid hab
          have HMB : Hid ((0 : Int) ≤ m ∧ (m : Int) ≤ 4294967296) := Lib.hid (by omega)
          have HR6 : Hid ((((([239, 0, 1, 1] ++ be (4 * (n1 : Int)) 2) ++ [2]) ++ be (n1 : Int) 2) ++ ((lens (c.codes.take k)).flatMap fun x => be x 2)).length + 2 ≤ reach) := Lib.hid (by
            have := HGN.out
            have hk3 : (c.codes.take k).length ≤ 1024 := by simp; omega
            simp only [List.length_append, be_length, List.length_cons, List.length_nil, lens_flat_length]
            unfold reach; omega)
          clear hm hcc hst hab hcb
          go_wp2_with fail
          refine (two_at _ ya yb HMB.out.1 HMB.out.2 HABL.out _).mono ?_
          rintro e wx ⟨rfl, rfl⟩
          go_wp2_with (at_builtin; refine app_box (.tmp 35) (.tmp 42) rfl rfl _ _ _ [ya, yb] 2 rfl HO5 rfl (Lib.hid rfl) (since_size HB5.out) HR6 ?_)
          intro v6 w6 ho hb
          have HO6 := Lib.hid ho
          have HB6 := Lib.hid (since_ext HB5.out hb HO5.out)
          clear ho hb
          go_wp2
          go_roundw
          case rel => exact ⟨k + 1, by omega, by go_num, by have := HO6.out; rw [HST.out, HABL.out]; simpa only [List.append_assoc, List.cons_append, List.nil_append] using this, HB6.out⟩
          case measure => exact own_meas hlt
        · obtain rfl : n1 = k := by omega
          have ho8 := HO5.out
          rw [List.take_of_length_le (by have := HL1.out; omega)] at ho8
          have HO8 := Lib.hid ho8
          clear ho8 HO5
          have x2 := since_cell HB5.out 2 _ rfl
          go_upto_if 47 with (fail)
          go_cut [3] (fun v wx => Own8 wx (bs w #[.slice A0 n0 c0, .slice A1 n1 c1, .slice A2 n2 c2, .slice A3 n3 c3, .int .i64 s]) v ((((([239, 0, 1, 1] ++ be (4 * (n1 : Int)) 2) ++ [2]) ++ be (n1 : Int) 2) ++ ((lens c.codes).flatMap fun x => be x 2)) ++ part3 (lens c.subs)) ∧ Since w #[.slice A0 n0 c0, .slice A1 n1 c1, .slice A2 n2 c2, .slice A3 n3 c3, .int .i64 s] wx)
          case first =>
            by_cases hm0 : n2 = 0
            · have HM0 := Lib.hid hm0
              subst hm0
              go_wp2_with fail
              go_meet
              refine ⟨?_, HB5.out⟩
              have : part3 (lens c.subs) = [] := by rw [part3, if_pos (by rw [lens_length]; exact HL2.out)]
              rw [this, List.append_nil]
              exact HO8.out
            · have hm1 : (0 : Int) < n2 := by omega
              have HM1 : Hid (0 < n2) := Lib.hid (by omega)
              obtain ⟨y9a, y9b, hab9⟩ := be_two (n2 : Int)
              have HAB9 := Lib.hid hab9
              have HC9 : Hid (((((([239, 0, 1, 1] ++ be (4 * (n1 : Int)) 2) ++ [2]) ++ be (n1 : Int) 2) ++ ((lens c.codes).flatMap fun x => be x 2)) ++ [3]) ++ [y9a, y9b] = (((((([239, 0, 1, 1] ++ be (4 * (n1 : Int)) 2) ++ [2]) ++ be (n1 : Int) 2) ++ ((lens c.codes).flatMap fun x => be x 2)) ++ [3]) ++ be (n2 : Int) 2)) := Lib.hid (by rw [← hab9]; try rfl)
              have HR9 : Hid (((((([239, 0, 1, 1] ++ be (4 * (n1 : Int)) 2) ++ [2]) ++ be (n1 : Int) 2) ++ ((lens c.codes).flatMap fun x => be x 2))).length + 1 ≤ reach) := Lib.hid (by have := HGN.out; have := HL1.out; have := HL2.out; simp only [List.length_append, be_length, List.length_cons, List.length_nil, lens_flat_length]; unfold reach; omega)
              have HR9q : Hid (((((([239, 0, 1, 1] ++ be (4 * (n1 : Int)) 2) ++ [2]) ++ be (n1 : Int) 2) ++ ((lens c.codes).flatMap fun x => be x 2)) ++ [3]).length + 2 ≤ reach) := Lib.hid (by have := HGN.out; have := HL1.out; have := HL2.out; simp only [List.length_append, be_length, List.length_cons, List.length_nil, lens_flat_length]; unfold reach; omega)
              have HX9 : Hid (0 ≤ (n2 : Int) ∧ (n2 : Int) ≤ 4294967296) := Lib.hid (by have := HGN.out; omega)
              clear hab9
              go_upto_region 9 with (fail)
              go_cut [3] (fun v wx => Own8 wx (bs w #[.slice A0 n0 c0, .slice A1 n1 c1, .slice A2 n2 c2, .slice A3 n3 c3, .int .i64 s]) v ((((((([239, 0, 1, 1] ++ be (4 * (n1 : Int)) 2) ++ [2]) ++ be (n1 : Int) 2) ++ ((lens c.codes).flatMap fun x => be x 2)) ++ [3]) ++ be (n2 : Int) 2)) ∧ Since w #[.slice A0 n0 c0, .slice A1 n1 c1, .slice A2 n2 c2, .slice A3 n3 c3, .int .i64 s] wx)
              case first =>
                have xk := since_cell HB5.out 2 _ rfl
                go_region_held3 (fun w' => w'.cell? ⟨w.heap.size, 2, none⟩ = some (.slice A2 n2 c2))
                  (first | go_keep | (exact since_cell (since_step HB5.out (Below.refl _ _)) 2 _ rfl) | (exact since_cell (since_step HB5.out (below_step (Below.refl _ _) (below_alloc _ _))) 2 _ rfl) | (exact since_cell (since_step HB5.out (Below.refl _ _).drew) 2 _ rfl) | (exact since_cell (since_step HB5.out (below_step (below_step (Below.refl _ _) (below_alloc _ _)) (below_alloc _ _))) 2 _ rfl) | (exact since_cell (since_step HB5.out (below_step (Below.refl _ _) (below_alloc _ _)).drew) 2 _ rfl) | (exact since_cell (since_step HB5.out (below_step (Below.refl _ _).drew (below_alloc _ _))) 2 _ rfl) | (exact since_cell (since_step HB5.out (below_step (below_step (Below.refl _ _) (below_alloc _ _)) (below_alloc _ _)).drew) 2 _ rfl) | (exact since_cell (since_step HB5.out (below_step (below_step (Below.refl _ _) (below_alloc _ _)).drew (below_alloc _ _))) 2 _ rfl) | (exact since_cell (since_step HB5.out (below_step (below_step (Below.refl _ _).drew (below_alloc _ _)) (below_alloc _ _))) 2 _ rfl) | (exact since_cell (since_step HBp9.out (Below.refl _ _)) 2 _ rfl) | (exact since_cell (since_step HBp9.out (below_step (Below.refl _ _) (below_alloc _ _))) 2 _ rfl) | (exact since_cell (since_step HBp9.out (Below.refl _ _).drew) 2 _ rfl) | (exact since_cell (since_step HBp9.out (below_step (below_step (Below.refl _ _) (below_alloc _ _)) (below_alloc _ _))) 2 _ rfl) | (exact since_cell (since_step HBp9.out (below_step (Below.refl _ _) (below_alloc _ _)).drew) 2 _ rfl) | (exact since_cell (since_step HBp9.out (below_step (Below.refl _ _).drew (below_alloc _ _))) 2 _ rfl) | (exact since_cell (since_step HBp9.out (below_step (below_step (Below.refl _ _) (below_alloc _ _)) (below_alloc _ _)).drew) 2 _ rfl) | (exact since_cell (since_step HBp9.out (below_step (below_step (Below.refl _ _) (below_alloc _ _)).drew (below_alloc _ _))) 2 _ rfl) | (exact since_cell (since_step HBp9.out (below_step (below_step (Below.refl _ _).drew (below_alloc _ _)) (below_alloc _ _))) 2 _ rfl) | (exact since_cell (since_step HBq9.out (Below.refl _ _)) 2 _ rfl) | (exact since_cell (since_step HBq9.out (below_step (Below.refl _ _) (below_alloc _ _))) 2 _ rfl) | (exact since_cell (since_step HBq9.out (Below.refl _ _).drew) 2 _ rfl) | (exact since_cell (since_step HBq9.out (below_step (below_step (Below.refl _ _) (below_alloc _ _)) (below_alloc _ _))) 2 _ rfl) | (exact since_cell (since_step HBq9.out (below_step (Below.refl _ _) (below_alloc _ _)).drew) 2 _ rfl) | (exact since_cell (since_step HBq9.out (below_step (Below.refl _ _).drew (below_alloc _ _))) 2 _ rfl) | (exact since_cell (since_step HBq9.out (below_step (below_step (Below.refl _ _) (below_alloc _ _)) (below_alloc _ _)).drew) 2 _ rfl) | (exact since_cell (since_step HBq9.out (below_step (below_step (Below.refl _ _) (below_alloc _ _)).drew (below_alloc _ _))) 2 _ rfl) | (exact since_cell (since_step HBq9.out (below_step (below_step (Below.refl _ _).drew (below_alloc _ _)) (below_alloc _ _))) 2 _ rfl))
                  ((first
                    | (go_at_call 50; (with_reducible refine (two_at _ y9a y9b HX9.out.1 HX9.out.2 HAB9.out _).mono ?_); rintro e wx ⟨rfl, rfl⟩)
                    | (refine step_g1 3 (.tmp 48) (.tmp 49) rfl rfl _ HO8 rfl rfl HR9 (since_size HB5.out) (by with_reducible first | exact (Below.refl _ _) | exact (below_step (Below.refl _ _) (below_alloc _ _)) | exact (Below.refl _ _).drew | exact (below_step (below_step (Below.refl _ _) (below_alloc _ _)) (below_alloc _ _)) | exact (below_step (Below.refl _ _) (below_alloc _ _)).drew | exact (below_step (Below.refl _ _).drew (below_alloc _ _)) | exact (below_step (below_step (Below.refl _ _) (below_alloc _ _)) (below_alloc _ _)).drew | exact (below_step (below_step (Below.refl _ _) (below_alloc _ _)).drew (below_alloc _ _)) | exact (below_step (below_step (Below.refl _ _).drew (below_alloc _ _)) (below_alloc _ _))) (by with_reducible first | exact (box_new' _ _ _ (by first | rfl | simp)) | exact (box_al _ (box_new' _ _ _ (by first | rfl | simp))) | exact (box_dr (box_new' _ _ _ (by first | rfl | simp))) | exact (box_dr (box_al _ (box_new' _ _ _ (by first | rfl | simp)))) | exact (box_al _ (box_dr (box_new' _ _ _ (by first | rfl | simp))))) ?_; intro vp9 wp9 ho hb he; have HEp9 := Lib.hid he; have HOp9 := Lib.hid ho; have HBp9 := Lib.hid (since_ext HB5.out hb HO8.out); clear ho hb he)
                    | (refine step_g2 y9a y9b (.tmp 50) (.tmp 54) rfl rfl _ HOp9 rfl rfl HR9q (since_size HBp9.out) (by with_reducible first | exact (Below.refl _ _) | exact (below_step (Below.refl _ _) (below_alloc _ _)) | exact (Below.refl _ _).drew | exact (below_step (Below.refl _ _) (below_alloc _ _)).drew | exact (below_step (Below.refl _ _).drew (below_alloc _ _))) (by with_reducible first | exact (box_new' _ _ _ (by first | rfl | simp)) | exact (box_dr (box_new' _ _ _ (by first | rfl | simp))) | exact (HEp9.out.box (box_new' _ _ _ (by first | rfl | simp)) (own_ne HO8.out (by simp <;> omega))) | exact (HEp9.out.box (box_al _ (box_new' _ _ _ (by first | rfl | simp))) (own_ne HO8.out (by simp <;> omega))) | exact (HEp9.out.box (box_dr (box_new' _ _ _ (by first | rfl | simp))) (own_ne HO8.out (by simp <;> omega))) | exact (HEp9.out.box (box_dr (box_al _ (box_new' _ _ _ (by first | rfl | simp)))) (own_ne HO8.out (by simp <;> omega))) | exact (HEp9.out.box (box_al _ (box_dr (box_new' _ _ _ (by first | rfl | simp)))) (own_ne HO8.out (by simp <;> omega))) | exact (box_dr (HEp9.out.box (box_new' _ _ _ (by first | rfl | simp)) (own_ne HO8.out (by simp <;> omega)))) | exact (box_dr (HEp9.out.box (box_al _ (box_new' _ _ _ (by first | rfl | simp))) (own_ne HO8.out (by simp <;> omega)))) | exact (box_dr (HEp9.out.box (box_dr (box_new' _ _ _ (by first | rfl | simp))) (own_ne HO8.out (by simp <;> omega)))) | exact (box_dr (HEp9.out.box (box_dr (box_al _ (box_new' _ _ _ (by first | rfl | simp)))) (own_ne HO8.out (by simp <;> omega)))) | exact (box_dr (HEp9.out.box (box_al _ (box_dr (box_new' _ _ _ (by first | rfl | simp)))) (own_ne HO8.out (by simp <;> omega))))) ?_; intro vq9 wq9 ho hb he; have HOq9 := Lib.hid ho; have HBq9 := Lib.hid (since_ext HBp9.out hb HOp9.out); clear ho hb he)))
                all_goals (go_wp2_with fail; go_meet; exact ⟨by have := HOq9.out; rwa [HC9.out] at this, HBq9.out⟩)
              case rest =>
                obtain ⟨ho, hb⟩ := hcut
                have HO9 := Lib.hid ho
                have HB9 := Lib.hid hb
                clear ho hb
                go_wp2
                go_loopw [3, 5] (fun v i wr => ∃ j : Nat, j ≤ n2 ∧ i = .int .i64 j ∧ Own8 wr (bs w #[.slice A0 n0 c0, .slice A1 n1 c1, .slice A2 n2 c2, .slice A3 n3 c3, .int .i64 s]) v ((((((([239, 0, 1, 1] ++ be (4 * (n1 : Int)) 2) ++ [2]) ++ be (n1 : Int) 2) ++ ((lens c.codes).flatMap fun x => be x 2)) ++ [3]) ++ be (n2 : Int) 2) ++ ((lens (c.subs.take j)).flatMap fun x => be x 4)) ∧ Since w #[.slice A0 n0 c0, .slice A1 n1 c1, .slice A2 n2 c2, .slice A3 n3 c3, .int .i64 s] wr) (fun _ i _ => n2 - (intOf i).toNat)
                case atStart => exact ⟨0, Nat.zero_le _, rfl, by have := HO9.out; simpa [lens] using this, HB9.out⟩
                case round =>
                  obtain ⟨j, hj, rfl, ho, hb⟩ := hrel
                  have HO11 := Lib.hid ho
                  have HB11 := Lib.hid hb
                  clear ho hb HO8 HO9
                  have x2 := since_cell HB11.out 2 _ rfl
                  by_cases hlj : j < n2
                  · have hk2 : j < c.subs.length := by have := HL2.out; omega
                    have hst := lens_snoc c.subs 4 j hk2
                    obtain ⟨b1, o1, rfl, hcc⟩ := (HS.out.mono (since_below HB11.out)).2 (by omega)
                    obtain ⟨p, hcell, B1, d1, rfl, _, _, _⟩ := hcc j hk2
                    have hcb := (HM.out.sub (c.subs.getD j []) (by rw [show c.subs.getD j [] = c.subs[j] by simp [List.getD_eq_getElem?_getD, hk2]]; exact List.getElem_mem _)).2
                    obtain ⟨m, hm⟩ : ∃ m, m = (c.subs.getD j []).length := ⟨_, rfl⟩
                    rw [← hm] at hcell hst hcb
                    obtain ⟨ya, yb, hab⟩ := be_two ((m : Int) / 65536)
                    obtain ⟨yc, yd, hcd⟩ := be_two (m : Int)
                    have h4 := be_four (m : Int)
                    have HST := Lib.hid hst
                    have HABL := Lib.hid hab
                    have HCDL := Lib.hid hcd
                    have H4 := Lib.hid h4
                    have HMB : Hid ((0 : Int) ≤ m ∧ (m : Int) ≤ 4294967296) := Lib.hid (by omega)
                    have HMB2 : Hid ((0 : Int) ≤ (m : Int) / 65536 ∧ (m : Int) / 65536 ≤ 4294967296) := Lib.hid (by omega)
                    have HR12 : Hid (((((((([239, 0, 1, 1] ++ be (4 * (n1 : Int)) 2) ++ [2]) ++ be (n1 : Int) 2) ++ ((lens c.codes).flatMap fun x => be x 2)) ++ [3]) ++ be (n2 : Int) 2) ++ ((lens (c.subs.take j)).flatMap fun x => be x 4)).length + 2 ≤ reach) := Lib.hid (by
                      have := HGN.out; have := HL1.out
                      have hk3 : (c.subs.take j).length ≤ 256 := by simp; omega
                      simp only [List.length_append, be_length, List.length_cons, List.length_nil, lens_flat_length]
                      unfold reach; omega)
                    clear hm hcc hst hab hcd h4
                    go_wp2_with fail
                    refine (two_at _ ya yb HMB2.out.1 HMB2.out.2 HABL.out _).mono ?_
                    rintro e wx ⟨rfl, rfl⟩
                    go_wp2_with (at_builtin; refine app_box (.tmp 69) (.tmp 72) rfl rfl _ _ _ [ya, yb] 2 rfl HO11 rfl (Lib.hid rfl) (since_size HB11.out) HR12 ?_)
                    intro v12 w12 ho hb
                    have HO12 := Lib.hid ho
                    have HB12 := Lib.hid (since_ext HB11.out hb HO11.out)
                    clear ho hb
                    have HR13 : Hid (_ ≤ reach) := roomk 2 HO12 (by
                      have := HGN.out; have := HL1.out
                      have hk3 : (c.subs.take j).length ≤ 256 := by simp; omega
                      simp only [List.length_append, be_length, List.length_cons, List.length_nil, lens_flat_length]
                      unfold reach; omega)
                    go_wp2_with fail
                    refine (two_at _ yc yd HMB.out.1 HMB.out.2 HCDL.out _).mono ?_
                    rintro e wx ⟨rfl, rfl⟩
                    go_wp2_with (at_builtin; refine app_box (.tmp 73) (.tmp 75) rfl rfl _ _ _ [yc, yd] 2 rfl HO12 rfl (Lib.hid rfl) (since_size HB12.out) HR13 ?_)
                    intro v13 w13 ho hb
                    have HO13 := Lib.hid ho
                    have HB13 := Lib.hid (since_ext HB12.out hb HO12.out)
                    clear ho hb
                    go_wp2
                    go_roundw
                    case rel => exact ⟨j + 1, by omega, by go_num, by have := HO13.out; rw [HST.out, H4.out, HABL.out, HCDL.out]; simpa only [List.append_assoc, List.cons_append, List.nil_append] using this, HB13.out⟩
                    case measure => exact own_meas hlj
                  · go_wp2_with fail
                    go_meet
                    obtain rfl : n2 = j := by omega
                    refine ⟨?_, HB11.out⟩
                    have h9 := HO11.out
                    rw [List.take_of_length_le (by have := HL2.out; omega)] at h9
                    rw [part3, if_neg (by rw [lens_length]; have := HL2.out; have := HM1.out; omega), lens_length, HL2.out]
                    simpa only [List.append_assoc, List.cons_append, List.nil_append] using h9
          case rest =>
            obtain ⟨ho, hb⟩ := hcut
            have HO20 := Lib.hid ho
            have HB20 := Lib.hid hb
            clear ho hb HO8 HB5
            have hp3 : (part3 (lens c.subs)).length ≤ 1027 := by
              have := HL2.out
              unfold part3
              split
              · simp
              · simp only [List.length_append, be_length, List.length_cons, List.length_nil, lens_flat_length, lens_length]; omega
            have HP3 := Lib.hid hp3
            clear hp3
            obtain ⟨y30a, y30b, hab30⟩ := be_two s
            have HAB30 := Lib.hid hab30
            have HC30 : Hid (((((((([239, 0, 1, 1] ++ be (4 * (n1 : Int)) 2) ++ [2]) ++ be (n1 : Int) 2) ++ ((lens c.codes).flatMap fun x => be x 2)) ++ part3 (lens c.subs)) ++ [255]) ++ [y30a, y30b]) ++ [0] = (((((((([239, 0, 1, 1] ++ be (4 * (n1 : Int)) 2) ++ [2]) ++ be (n1 : Int) 2) ++ ((lens c.codes).flatMap fun x => be x 2)) ++ part3 (lens c.subs)) ++ [255]) ++ be s 2) ++ [0])) := Lib.hid (by rw [← hab30])
            have HR30 : Hid ((((((([239, 0, 1, 1] ++ be (4 * (n1 : Int)) 2) ++ [2]) ++ be (n1 : Int) 2) ++ ((lens c.codes).flatMap fun x => be x 2)) ++ part3 (lens c.subs))).length + 1 ≤ reach) := Lib.hid (by have := HP3.out; have := HGN.out; have := HL1.out; have := HL2.out; have := HL0.out; simp only [List.length_append, be_length, List.length_cons, List.length_nil, lens_flat_length, tysB_length, List.length_take]; unfold reach; omega)
            have HR30q : Hid ((((((([239, 0, 1, 1] ++ be (4 * (n1 : Int)) 2) ++ [2]) ++ be (n1 : Int) 2) ++ ((lens c.codes).flatMap fun x => be x 2)) ++ part3 (lens c.subs)) ++ [255]).length + 2 ≤ reach) := Lib.hid (by have := HP3.out; have := HGN.out; have := HL1.out; have := HL2.out; have := HL0.out; simp only [List.length_append, be_length, List.length_cons, List.length_nil, lens_flat_length, tysB_length, List.length_take]; unfold reach; omega)
            have HR30r : Hid (((((((([239, 0, 1, 1] ++ be (4 * (n1 : Int)) 2) ++ [2]) ++ be (n1 : Int) 2) ++ ((lens c.codes).flatMap fun x => be x 2)) ++ part3 (lens c.subs)) ++ [255]) ++ [y30a, y30b]).length + 1 ≤ reach) := Lib.hid (by have := HP3.out; have := HGN.out; have := HL1.out; have := HL2.out; have := HL0.out; simp only [List.length_append, be_length, List.length_cons, List.length_nil, lens_flat_length, tysB_length, List.length_take]; unfold reach; omega)
            have HX30 : Hid (0 ≤ s ∧ s ≤ 4294967296) := Lib.hid (by have := HGN.out; omega)
            clear hab30
            go_upto_region 15 with (fail)
            go_cut [3] (fun v wx => Own8 wx (bs w #[.slice A0 n0 c0, .slice A1 n1 c1, .slice A2 n2 c2, .slice A3 n3 c3, .int .i64 s]) v ((((((((([239, 0, 1, 1] ++ be (4 * (n1 : Int)) 2) ++ [2]) ++ be (n1 : Int) 2) ++ ((lens c.codes).flatMap fun x => be x 2)) ++ part3 (lens c.subs)) ++ [255]) ++ be s 2) ++ [0])) ∧ Since w #[.slice A0 n0 c0, .slice A1 n1 c1, .slice A2 n2 c2, .slice A3 n3 c3, .int .i64 s] wx)
            case first =>
              have xk := since_cell HB20.out 4 _ rfl
              go_region_held3 (fun w' => w'.cell? ⟨w.heap.size, 4, none⟩ = some (.int .i64 s))
                (first | go_keep | (exact since_cell (since_step HB20.out (Below.refl _ _)) 4 _ rfl) | (exact since_cell (since_step HB20.out (below_step (Below.refl _ _) (below_alloc _ _))) 4 _ rfl) | (exact since_cell (since_step HB20.out (Below.refl _ _).drew) 4 _ rfl) | (exact since_cell (since_step HB20.out (below_step (below_step (Below.refl _ _) (below_alloc _ _)) (below_alloc _ _))) 4 _ rfl) | (exact since_cell (since_step HB20.out (below_step (Below.refl _ _) (below_alloc _ _)).drew) 4 _ rfl) | (exact since_cell (since_step HB20.out (below_step (Below.refl _ _).drew (below_alloc _ _))) 4 _ rfl) | (exact since_cell (since_step HB20.out (below_step (below_step (Below.refl _ _) (below_alloc _ _)) (below_alloc _ _)).drew) 4 _ rfl) | (exact since_cell (since_step HB20.out (below_step (below_step (Below.refl _ _) (below_alloc _ _)).drew (below_alloc _ _))) 4 _ rfl) | (exact since_cell (since_step HB20.out (below_step (below_step (Below.refl _ _).drew (below_alloc _ _)) (below_alloc _ _))) 4 _ rfl) | (exact since_cell (since_step HBp30.out (Below.refl _ _)) 4 _ rfl) | (exact since_cell (since_step HBp30.out (below_step (Below.refl _ _) (below_alloc _ _))) 4 _ rfl) | (exact since_cell (since_step HBp30.out (Below.refl _ _).drew) 4 _ rfl) | (exact since_cell (since_step HBp30.out (below_step (below_step (Below.refl _ _) (below_alloc _ _)) (below_alloc _ _))) 4 _ rfl) | (exact since_cell (since_step HBp30.out (below_step (Below.refl _ _) (below_alloc _ _)).drew) 4 _ rfl) | (exact since_cell (since_step HBp30.out (below_step (Below.refl _ _).drew (below_alloc _ _))) 4 _ rfl) | (exact since_cell (since_step HBp30.out (below_step (below_step (Below.refl _ _) (below_alloc _ _)) (below_alloc _ _)).drew) 4 _ rfl) | (exact since_cell (since_step HBp30.out (below_step (below_step (Below.refl _ _) (below_alloc _ _)).drew (below_alloc _ _))) 4 _ rfl) | (exact since_cell (since_step HBp30.out (below_step (below_step (Below.refl _ _).drew (below_alloc _ _)) (below_alloc _ _))) 4 _ rfl) | (exact since_cell (since_step HBq30.out (Below.refl _ _)) 4 _ rfl) | (exact since_cell (since_step HBq30.out (below_step (Below.refl _ _) (below_alloc _ _))) 4 _ rfl) | (exact since_cell (since_step HBq30.out (Below.refl _ _).drew) 4 _ rfl) | (exact since_cell (since_step HBq30.out (below_step (below_step (Below.refl _ _) (below_alloc _ _)) (below_alloc _ _))) 4 _ rfl) | (exact since_cell (since_step HBq30.out (below_step (Below.refl _ _) (below_alloc _ _)).drew) 4 _ rfl) | (exact since_cell (since_step HBq30.out (below_step (Below.refl _ _).drew (below_alloc _ _))) 4 _ rfl) | (exact since_cell (since_step HBq30.out (below_step (below_step (Below.refl _ _) (below_alloc _ _)) (below_alloc _ _)).drew) 4 _ rfl) | (exact since_cell (since_step HBq30.out (below_step (below_step (Below.refl _ _) (below_alloc _ _)).drew (below_alloc _ _))) 4 _ rfl) | (exact since_cell (since_step HBq30.out (below_step (below_step (Below.refl _ _).drew (below_alloc _ _)) (below_alloc _ _))) 4 _ rfl) | (exact since_cell (since_step HBr30.out (Below.refl _ _)) 4 _ rfl) | (exact since_cell (since_step HBr30.out (below_step (Below.refl _ _) (below_alloc _ _))) 4 _ rfl) | (exact since_cell (since_step HBr30.out (Below.refl _ _).drew) 4 _ rfl) | (exact since_cell (since_step HBr30.out (below_step (below_step (Below.refl _ _) (below_alloc _ _)) (below_alloc _ _))) 4 _ rfl) | (exact since_cell (since_step HBr30.out (below_step (Below.refl _ _) (below_alloc _ _)).drew) 4 _ rfl) | (exact since_cell (since_step HBr30.out (below_step (Below.refl _ _).drew (below_alloc _ _))) 4 _ rfl) | (exact since_cell (since_step HBr30.out (below_step (below_step (Below.refl _ _) (below_alloc _ _)) (below_alloc _ _)).drew) 4 _ rfl) | (exact since_cell (since_step HBr30.out (below_step (below_step (Below.refl _ _) (below_alloc _ _)).drew (below_alloc _ _))) 4 _ rfl) | (exact since_cell (since_step HBr30.out (below_step (below_step (Below.refl _ _).drew (below_alloc _ _)) (below_alloc _ _))) 4 _ rfl))
                ((first
                  | (go_at_call 50; (with_reducible refine (two_at _ y30a y30b HX30.out.1 HX30.out.2 HAB30.out _).mono ?_); rintro e wx ⟨rfl, rfl⟩)
                  | (refine step_g1 255 (.tmp 77) (.tmp 78) rfl rfl _ HO20 rfl rfl HR30 (since_size HB20.out) (by with_reducible first | exact (Below.refl _ _) | exact (below_step (Below.refl _ _) (below_alloc _ _)) | exact (Below.refl _ _).drew | exact (below_step (below_step (Below.refl _ _) (below_alloc _ _)) (below_alloc _ _)) | exact (below_step (Below.refl _ _) (below_alloc _ _)).drew | exact (below_step (Below.refl _ _).drew (below_alloc _ _)) | exact (below_step (below_step (below_step (Below.refl _ _) (below_alloc _ _)) (below_alloc _ _)) (below_alloc _ _)) | exact (below_step (below_step (Below.refl _ _) (below_alloc _ _)) (below_alloc _ _)).drew | exact (below_step (below_step (Below.refl _ _) (below_alloc _ _)).drew (below_alloc _ _)) | exact (below_step (below_step (Below.refl _ _).drew (below_alloc _ _)) (below_alloc _ _)) | exact (below_step (below_step (below_step (Below.refl _ _) (below_alloc _ _)) (below_alloc _ _)) (below_alloc _ _)).drew | exact (below_step (below_step (below_step (Below.refl _ _) (below_alloc _ _)) (below_alloc _ _)).drew (below_alloc _ _)) | exact (below_step (below_step (below_step (Below.refl _ _) (below_alloc _ _)).drew (below_alloc _ _)) (below_alloc _ _)) | exact (below_step (below_step (below_step (Below.refl _ _).drew (below_alloc _ _)) (below_alloc _ _)) (below_alloc _ _))) (by with_reducible first | exact (box_new' _ _ _ (by first | rfl | simp)) | exact (box_al _ (box_new' _ _ _ (by first | rfl | simp))) | exact (box_dr (box_new' _ _ _ (by first | rfl | simp))) | exact (box_al _ (box_al _ (box_new' _ _ _ (by first | rfl | simp)))) | exact (box_dr (box_al _ (box_new' _ _ _ (by first | rfl | simp)))) | exact (box_al _ (box_dr (box_new' _ _ _ (by first | rfl | simp)))) | exact (box_dr (box_al _ (box_al _ (box_new' _ _ _ (by first | rfl | simp))))) | exact (box_al _ (box_dr (box_al _ (box_new' _ _ _ (by first | rfl | simp))))) | exact (box_al _ (box_al _ (box_dr (box_new' _ _ _ (by first | rfl | simp)))))) ?_; intro vp30 wp30 ho hb he; have HEp30 := Lib.hid he; have HOp30 := Lib.hid ho; have HBp30 := Lib.hid (since_ext HB20.out hb HO20.out); clear ho hb he)
                  | (refine step_g2 y30a y30b (.tmp 79) (.tmp 82) rfl rfl _ HOp30 rfl rfl HR30q (since_size HBp30.out) (by with_reducible first | exact (Below.refl _ _) | exact (below_step (Below.refl _ _) (below_alloc _ _)) | exact (Below.refl _ _).drew | exact (below_step (below_step (Below.refl _ _) (below_alloc _ _)) (below_alloc _ _)) | exact (below_step (Below.refl _ _) (below_alloc _ _)).drew | exact (below_step (Below.refl _ _).drew (below_alloc _ _)) | exact (below_step (below_step (Below.refl _ _) (below_alloc _ _)) (below_alloc _ _)).drew | exact (below_step (below_step (Below.refl _ _) (below_alloc _ _)).drew (below_alloc _ _)) | exact (below_step (below_step (Below.refl _ _).drew (below_alloc _ _)) (below_alloc _ _))) (by with_reducible first | exact (box_new' _ _ _ (by first | rfl | simp)) | exact (box_al _ (box_new' _ _ _ (by first | rfl | simp))) | exact (box_dr (box_new' _ _ _ (by first | rfl | simp))) | exact (box_dr (box_al _ (box_new' _ _ _ (by first | rfl | simp)))) | exact (box_al _ (box_dr (box_new' _ _ _ (by first | rfl | simp)))) | exact (HEp30.out.box (box_new' _ _ _ (by first | rfl | simp)) (own_ne HO20.out (by simp <;> omega))) | exact (HEp30.out.box (box_al _ (box_new' _ _ _ (by first | rfl | simp))) (own_ne HO20.out (by simp <;> omega))) | exact (HEp30.out.box (box_dr (box_new' _ _ _ (by first | rfl | simp))) (own_ne HO20.out (by simp <;> omega))) | exact (HEp30.out.box (box_al _ (box_al _ (box_new' _ _ _ (by first | rfl | simp)))) (own_ne HO20.out (by simp <;> omega))) | exact (HEp30.out.box (box_dr (box_al _ (box_new' _ _ _ (by first | rfl | simp)))) (own_ne HO20.out (by simp <;> omega))) | exact (HEp30.out.box (box_al _ (box_dr (box_new' _ _ _ (by first | rfl | simp)))) (own_ne HO20.out (by simp <;> omega))) | exact (HEp30.out.box (box_dr (box_al _ (box_al _ (box_new' _ _ _ (by first | rfl | simp))))) (own_ne HO20.out (by simp <;> omega))) | exact (HEp30.out.box (box_al _ (box_dr (box_al _ (box_new' _ _ _ (by first | rfl | simp))))) (own_ne HO20.out (by simp <;> omega))) | exact (HEp30.out.box (box_al _ (box_al _ (box_dr (box_new' _ _ _ (by first | rfl | simp))))) (own_ne HO20.out (by simp <;> omega))) | exact (box_dr (HEp30.out.box (box_new' _ _ _ (by first | rfl | simp)) (own_ne HO20.out (by simp <;> omega)))) | exact (box_dr (HEp30.out.box (box_al _ (box_new' _ _ _ (by first | rfl | simp))) (own_ne HO20.out (by simp <;> omega)))) | exact (box_dr (HEp30.out.box (box_dr (box_new' _ _ _ (by first | rfl | simp))) (own_ne HO20.out (by simp <;> omega)))) | exact (box_dr (HEp30.out.box (box_al _ (box_al _ (box_new' _ _ _ (by first | rfl | simp)))) (own_ne HO20.out (by simp <;> omega)))) | exact (box_dr (HEp30.out.box (box_dr (box_al _ (box_new' _ _ _ (by first | rfl | simp)))) (own_ne HO20.out (by simp <;> omega)))) | exact (box_dr (HEp30.out.box (box_al _ (box_dr (box_new' _ _ _ (by first | rfl | simp)))) (own_ne HO20.out (by simp <;> omega)))) | exact (box_dr (HEp30.out.box (box_dr (box_al _ (box_al _ (box_new' _ _ _ (by first | rfl | simp))))) (own_ne HO20.out (by simp <;> omega)))) | exact (box_dr (HEp30.out.box (box_al _ (box_dr (box_al _ (box_new' _ _ _ (by first | rfl | simp))))) (own_ne HO20.out (by simp <;> omega)))) | exact (box_dr (HEp30.out.box (box_al _ (box_al _ (box_dr (box_new' _ _ _ (by first | rfl | simp))))) (own_ne HO20.out (by simp <;> omega)))) | exact (box_al _ (HEp30.out.box (box_new' _ _ _ (by first | rfl | simp)) (own_ne HO20.out (by simp <;> omega)))) | exact (box_al _ (HEp30.out.box (box_al _ (box_new' _ _ _ (by first | rfl | simp))) (own_ne HO20.out (by simp <;> omega)))) | exact (box_al _ (HEp30.out.box (box_dr (box_new' _ _ _ (by first | rfl | simp))) (own_ne HO20.out (by simp <;> omega)))) | exact (box_al _ (HEp30.out.box (box_al _ (box_al _ (box_new' _ _ _ (by first | rfl | simp)))) (own_ne HO20.out (by simp <;> omega)))) | exact (box_al _ (HEp30.out.box (box_dr (box_al _ (box_new' _ _ _ (by first | rfl | simp)))) (own_ne HO20.out (by simp <;> omega)))) | exact (box_al _ (HEp30.out.box (box_al _ (box_dr (box_new' _ _ _ (by first | rfl | simp)))) (own_ne HO20.out (by simp <;> omega)))) | exact (box_al _ (HEp30.out.box (box_dr (box_al _ (box_al _ (box_new' _ _ _ (by first | rfl | simp))))) (own_ne HO20.out (by simp <;> omega)))) | exact (box_al _ (HEp30.out.box (box_al _ (box_dr (box_al _ (box_new' _ _ _ (by first | rfl | simp))))) (own_ne HO20.out (by simp <;> omega)))) | exact (box_al _ (HEp30.out.box (box_al _ (box_al _ (box_dr (box_new' _ _ _ (by first | rfl | simp))))) (own_ne HO20.out (by simp <;> omega))))) ?_; intro vq30 wq30 ho hb he; have HEq30 := Lib.hid he; have HOq30 := Lib.hid ho; have HBq30 := Lib.hid (since_ext HBp30.out hb HOp30.out); clear ho hb he)
                  | (refine step_g1 0 (.tmp 83) (.tmp 84) rfl rfl _ HOq30 rfl rfl HR30r (since_size HBq30.out) (by with_reducible first | exact (Below.refl _ _) | exact (below_step (Below.refl _ _) (below_alloc _ _)) | exact (Below.refl _ _).drew | exact (below_step (Below.refl _ _) (below_alloc _ _)).drew | exact (below_step (Below.refl _ _).drew (below_alloc _ _))) (by with_reducible first | exact (box_new' _ _ _ (by first | rfl | simp)) | exact (box_dr (box_new' _ _ _ (by first | rfl | simp))) | exact (HEq30.out.box (box_new' _ _ _ (by first | rfl | simp)) (own_ne HOp30.out (by simp <;> omega))) | exact (HEq30.out.box (box_al _ (box_new' _ _ _ (by first | rfl | simp))) (own_ne HOp30.out (by simp <;> omega))) | exact (HEq30.out.box (box_dr (box_new' _ _ _ (by first | rfl | simp))) (own_ne HOp30.out (by simp <;> omega))) | exact (HEq30.out.box (box_dr (box_al _ (box_new' _ _ _ (by first | rfl | simp)))) (own_ne HOp30.out (by simp <;> omega))) | exact (HEq30.out.box (box_al _ (box_dr (box_new' _ _ _ (by first | rfl | simp)))) (own_ne HOp30.out (by simp <;> omega))) | exact (HEq30.out.box (HEp30.out.box (box_new' _ _ _ (by first | rfl | simp)) (own_ne HO20.out (by simp <;> omega))) (HEp30.out.ne (by simp [drew_size] <;> omega) (own_ne HO20.out (by simp <;> omega)))) | exact (HEq30.out.box (HEp30.out.box (box_al _ (box_new' _ _ _ (by first | rfl | simp))) (own_ne HO20.out (by simp <;> omega))) (HEp30.out.ne (by simp [drew_size] <;> omega) (own_ne HO20.out (by simp <;> omega)))) | exact (HEq30.out.box (HEp30.out.box (box_dr (box_new' _ _ _ (by first | rfl | simp))) (own_ne HO20.out (by simp <;> omega))) (HEp30.out.ne (by simp [drew_size] <;> omega) (own_ne HO20.out (by simp <;> omega)))) | exact (HEq30.out.box (HEp30.out.box (box_al _ (box_al _ (box_new' _ _ _ (by first | rfl | simp)))) (own_ne HO20.out (by simp <;> omega))) (HEp30.out.ne (by simp [drew_size] <;> omega) (own_ne HO20.out (by simp <;> omega)))) | exact (HEq30.out.box (HEp30.out.box (box_dr (box_al _ (box_new' _ _ _ (by first | rfl | simp)))) (own_ne HO20.out (by simp <;> omega))) (HEp30.out.ne (by simp [drew_size] <;> omega) (own_ne HO20.out (by simp <;> omega)))) | exact (HEq30.out.box (HEp30.out.box (box_al _ (box_dr (box_new' _ _ _ (by first | rfl | simp)))) (own_ne HO20.out (by simp <;> omega))) (HEp30.out.ne (by simp [drew_size] <;> omega) (own_ne HO20.out (by simp <;> omega)))) | exact (HEq30.out.box (HEp30.out.box (box_dr (box_al _ (box_al _ (box_new' _ _ _ (by first | rfl | simp))))) (own_ne HO20.out (by simp <;> omega))) (HEp30.out.ne (by simp [drew_size] <;> omega) (own_ne HO20.out (by simp <;> omega)))) | exact (HEq30.out.box (HEp30.out.box (box_al _ (box_dr (box_al _ (box_new' _ _ _ (by first | rfl | simp))))) (own_ne HO20.out (by simp <;> omega))) (HEp30.out.ne (by simp [drew_size] <;> omega) (own_ne HO20.out (by simp <;> omega)))) | exact (HEq30.out.box (HEp30.out.box (box_al _ (box_al _ (box_dr (box_new' _ _ _ (by first | rfl | simp))))) (own_ne HO20.out (by simp <;> omega))) (HEp30.out.ne (by simp [drew_size] <;> omega) (own_ne HO20.out (by simp <;> omega)))) | exact (HEq30.out.box (box_al _ (HEp30.out.box (box_new' _ _ _ (by first | rfl | simp)) (own_ne HO20.out (by simp <;> omega)))) (HEp30.out.ne (by simp [drew_size] <;> omega) (own_ne HO20.out (by simp <;> omega)))) | exact (HEq30.out.box (box_al _ (HEp30.out.box (box_al _ (box_new' _ _ _ (by first | rfl | simp))) (own_ne HO20.out (by simp <;> omega)))) (HEp30.out.ne (by simp [drew_size] <;> omega) (own_ne HO20.out (by simp <;> omega)))) | exact (HEq30.out.box (box_al _ (HEp30.out.box (box_dr (box_new' _ _ _ (by first | rfl | simp))) (own_ne HO20.out (by simp <;> omega)))) (HEp30.out.ne (by simp [drew_size] <;> omega) (own_ne HO20.out (by simp <;> omega)))) | exact (HEq30.out.box (box_al _ (HEp30.out.box (box_al _ (box_al _ (box_new' _ _ _ (by first | rfl | simp)))) (own_ne HO20.out (by simp <;> omega)))) (HEp30.out.ne (by simp [drew_size] <;> omega) (own_ne HO20.out (by simp <;> omega)))) | exact (HEq30.out.box (box_al _ (HEp30.out.box (box_dr (box_al _ (box_new' _ _ _ (by first | rfl | simp)))) (own_ne HO20.out (by simp <;> omega)))) (HEp30.out.ne (by simp [drew_size] <;> omega) (own_ne HO20.out (by simp <;> omega)))) | exact (HEq30.out.box (box_al _ (HEp30.out.box (box_al _ (box_dr (box_new' _ _ _ (by first | rfl | simp)))) (own_ne HO20.out (by simp <;> omega)))) (HEp30.out.ne (by simp [drew_size] <;> omega) (own_ne HO20.out (by simp <;> omega)))) | exact (HEq30.out.box (box_al _ (HEp30.out.box (box_dr (box_al _ (box_al _ (box_new' _ _ _ (by first | rfl | simp))))) (own_ne HO20.out (by simp <;> omega)))) (HEp30.out.ne (by simp [drew_size] <;> omega) (own_ne HO20.out (by simp <;> omega)))) | exact (HEq30.out.box (box_al _ (HEp30.out.box (box_al _ (box_dr (box_al _ (box_new' _ _ _ (by first | rfl | simp))))) (own_ne HO20.out (by simp <;> omega)))) (HEp30.out.ne (by simp [drew_size] <;> omega) (own_ne HO20.out (by simp <;> omega)))) | exact (HEq30.out.box (box_al _ (HEp30.out.box (box_al _ (box_al _ (box_dr (box_new' _ _ _ (by first | rfl | simp))))) (own_ne HO20.out (by simp <;> omega)))) (HEp30.out.ne (by simp [drew_size] <;> omega) (own_ne HO20.out (by simp <;> omega))))) ?_; intro vr30 wr30 ho hb he; have HOr30 := Lib.hid ho; have HBr30 := Lib.hid (since_ext HBq30.out hb HOq30.out); clear ho hb he)))
              all_goals (go_wp2_with fail; go_meet; exact ⟨by have := HOr30.out; rwa [HC30.out] at this, HBr30.out⟩)
            case rest =>
              obtain ⟨ho, hb⟩ := hcut
              have HO30 := Lib.hid ho
              have HB30 := Lib.hid hb
              clear ho hb
              have x0 := since_cell HB30.out 0 _ rfl
              go_wp2
              clear x0
              go_loopw [3, 7] (fun v i wr => ∃ k : Nat, k ≤ n0 ∧ i = .int .i64 k ∧ Own8 wr (bs w #[.slice A0 n0 c0, .slice A1 n1 c1, .slice A2 n2 c2, .slice A3 n3 c3, .int .i64 s]) v ((((((((([239, 0, 1, 1] ++ be (4 * (n1 : Int)) 2) ++ [2]) ++ be (n1 : Int) 2) ++ ((lens c.codes).flatMap fun x => be x 2)) ++ part3 (lens c.subs)) ++ [255]) ++ be s 2) ++ [0]) ++ (c.types.take k).flatMap tyB) ∧ Since w #[.slice A0 n0 c0, .slice A1 n1 c1, .slice A2 n2 c2, .slice A3 n3 c3, .int .i64 s] wr) (fun _ i _ => n0 - (intOf i).toNat)
              case atStart => exact ⟨0, Nat.zero_le _, rfl, by have := HO30.out; simpa using this, HB30.out⟩
              case round =>
                obtain ⟨k, hk, rfl, ho, hb⟩ := hrel
                have HO31 := Lib.hid ho
                have HB31 := Lib.hid hb
                clear ho hb HO30
                have x0 := since_cell HB31.out 0 _ rfl

                by_cases hlt : k < n0
                · have hk2 : k < c.types.length := by have := HL0.out; omega
                  have hx := tysOk_all c.types true HM.out.tys k hk2
                  have hst := tysB_snoc c.types k hk2
                  obtain ⟨b1, o1, hA0, j1, j2, j3⟩ := types_at HT.out k hk2
                  obtain ⟨x, hxx⟩ : ∃ x, x = c.types.getD k ty0 := ⟨_, rfl⟩
                  rw [← hxx] at j1 j2 j3 hx hst
                  have HST := Lib.hid hst
                  have HTK : Hid ((c.types.take k).length ≤ 1024) := Lib.hid (by have := HGN.out; have := HL0.out; rw [List.length_take]; omega)
                  clear hxx hst x0
                  obtain ⟨y1, y2, y3⟩ := x
                  obtain ⟨⟨p1, q1⟩, ⟨p2, q2⟩, p3, q3⟩ := hx
                  have HJ : Hid (w.cell? ⟨b1, o1 + k * 3, none⟩ = some (.int .i64 y1) ∧ w.cell? ⟨b1, o1 + k * 3 + 1, none⟩ = some (.int .i64 y2) ∧ w.cell? ⟨b1, o1 + k * 3 + 2, none⟩ = some (.int .i64 y3)) := Lib.hid ⟨j1, j2, j3⟩
                  obtain ⟨va, hva⟩ : ∃ va : Array Value, va = #[.slice A0 n0 c0, .slice A1 n1 c1, .slice A2 n2 c2, .slice A3 n3 c3, .int .i64 s] := ⟨_, rfl⟩
                  rw [← hva] at HO31 HB31
                  have HVA := Lib.hid hva
                  subst hA0
                  have HVA0 : Hid (va[0]? = some (.slice (some ⟨b1, o1, none⟩) n0 c0)) := Lib.hid (by rw [hva]; rfl)
                  obtain ⟨y32a, y32b, hab⟩ := be_two y3
                  have HAB32 := Lib.hid hab
                  have p3' : 0 ≤ y3 := p3
                  have q3' : y3 ≤ 1023 := q3
                  have HX32 : Hid (0 ≤ y3 ∧ y3 ≤ 4294967296) := Lib.hid (by omega)
                  have HR32 : Hid (((((((((([239, 0, 1, 1] ++ be (4 * (n1 : Int)) 2) ++ [2]) ++ be (n1 : Int) 2) ++ ((lens c.codes).flatMap fun x => be x 2)) ++ part3 (lens c.subs)) ++ [255]) ++ be s 2) ++ [0]) ++ (c.types.take k).flatMap tyB).length + 2 ≤ reach) := Lib.hid (by have := HP3.out; have := HGN.out; have := HL1.out; have := HL2.out; have := HL0.out; have := HTK.out; simp only [List.length_append, be_length, List.length_cons, List.length_nil, lens_flat_length, tysB_length]; unfold reach; omega)
                  have HR33 : Hid ((((((((((([239, 0, 1, 1] ++ be (4 * (n1 : Int)) 2) ++ [2]) ++ be (n1 : Int) 2) ++ ((lens c.codes).flatMap fun x => be x 2)) ++ part3 (lens c.subs)) ++ [255]) ++ be s 2) ++ [0]) ++ (c.types.take k).flatMap tyB) ++ [IntKind.u8.wrap y1, IntKind.u8.wrap y2]).length + 2 ≤ reach) := Lib.hid (by have := HP3.out; have := HGN.out; have := HL1.out; have := HL2.out; have := HL0.out; have := HTK.out; simp only [List.length_append, be_length, List.length_cons, List.length_nil, lens_flat_length, tysB_length]; unfold reach; omega)
                  clear hva j1 j2 j3 hab
                  have j1 := cell_keep (since_below HB31.out) HJ.out.1
                  have j2 := cell_keep (since_below HB31.out) HJ.out.2.1
                  have j3 := cell_keep (since_below HB31.out) HJ.out.2.2
                  have x0 := since_cell HB31.out 0 _ HVA0.out
                  go_upto_region 19 with (fail)
                  go_region_held3 (fun w' => w'.cell? ⟨w.heap.size, 0, none⟩ = some (.slice (some ⟨b1, o1, none⟩) n0 c0) ∧ w'.cell? ⟨b1, o1 + k * 3, none⟩ = some (.int .i64 y1) ∧ w'.cell? ⟨b1, o1 + k * 3 + 1, none⟩ = some (.int .i64 y2) ∧ w'.cell? ⟨b1, o1 + k * 3 + 2, none⟩ = some (.int .i64 y3))
                    (first | go_keep | (exact ⟨since_cell (since_step HB31.out (Below.refl _ _)) 0 _ HVA0.out, cell_keep (since_below (since_step HB31.out (Below.refl _ _))) HJ.out.1, cell_keep (since_below (since_step HB31.out (Below.refl _ _))) HJ.out.2.1, cell_keep (since_below (since_step HB31.out (Below.refl _ _))) HJ.out.2.2⟩) | (exact ⟨since_cell (since_step HB31.out (below_step (Below.refl _ _) (below_alloc _ _))) 0 _ HVA0.out, cell_keep (since_below (since_step HB31.out (below_step (Below.refl _ _) (below_alloc _ _)))) HJ.out.1, cell_keep (since_below (since_step HB31.out (below_step (Below.refl _ _) (below_alloc _ _)))) HJ.out.2.1, cell_keep (since_below (since_step HB31.out (below_step (Below.refl _ _) (below_alloc _ _)))) HJ.out.2.2⟩) | (exact ⟨since_cell (since_step HB31.out (Below.refl _ _).drew) 0 _ HVA0.out, cell_keep (since_below (since_step HB31.out (Below.refl _ _).drew)) HJ.out.1, cell_keep (since_below (since_step HB31.out (Below.refl _ _).drew)) HJ.out.2.1, cell_keep (since_below (since_step HB31.out (Below.refl _ _).drew)) HJ.out.2.2⟩) | (exact ⟨since_cell (since_step HB31.out (below_step (below_step (Below.refl _ _) (below_alloc _ _)) (below_alloc _ _))) 0 _ HVA0.out, cell_keep (since_below (since_step HB31.out (below_step (below_step (Below.refl _ _) (below_alloc _ _)) (below_alloc _ _)))) HJ.out.1, cell_keep (since_below (since_step HB31.out (below_step (below_step (Below.refl _ _) (below_alloc _ _)) (below_alloc _ _)))) HJ.out.2.1, cell_keep (since_below (since_step HB31.out (below_step (below_step (Below.refl _ _) (below_alloc _ _)) (below_alloc _ _)))) HJ.out.2.2⟩) | (exact ⟨since_cell (since_step HB31.out (below_step (Below.refl _ _) (below_alloc _ _)).drew) 0 _ HVA0.out, cell_keep (since_below (since_step HB31.out (below_step (Below.refl _ _) (below_alloc _ _)).drew)) HJ.out.1, cell_keep (since_below (since_step HB31.out (below_step (Below.refl _ _) (below_alloc _ _)).drew)) HJ.out.2.1, cell_keep (since_below (since_step HB31.out (below_step (Below.refl _ _) (below_alloc _ _)).drew)) HJ.out.2.2⟩) | (exact ⟨since_cell (since_step HB31.out (below_step (Below.refl _ _).drew (below_alloc _ _))) 0 _ HVA0.out, cell_keep (since_below (since_step HB31.out (below_step (Below.refl _ _).drew (below_alloc _ _)))) HJ.out.1, cell_keep (since_below (since_step HB31.out (below_step (Below.refl _ _).drew (below_alloc _ _)))) HJ.out.2.1, cell_keep (since_below (since_step HB31.out (below_step (Below.refl _ _).drew (below_alloc _ _)))) HJ.out.2.2⟩) | (exact ⟨since_cell (since_step HB31.out (below_step (below_step (Below.refl _ _) (below_alloc _ _)) (below_alloc _ _)).drew) 0 _ HVA0.out, cell_keep (since_below (since_step HB31.out (below_step (below_step (Below.refl _ _) (below_alloc _ _)) (below_alloc _ _)).drew)) HJ.out.1, cell_keep (since_below (since_step HB31.out (below_step (below_step (Below.refl _ _) (below_alloc _ _)) (below_alloc _ _)).drew)) HJ.out.2.1, cell_keep (since_below (since_step HB31.out (below_step (below_step (Below.refl _ _) (below_alloc _ _)) (below_alloc _ _)).drew)) HJ.out.2.2⟩) | (exact ⟨since_cell (since_step HB31.out (below_step (below_step (Below.refl _ _) (below_alloc _ _)).drew (below_alloc _ _))) 0 _ HVA0.out, cell_keep (since_below (since_step HB31.out (below_step (below_step (Below.refl _ _) (below_alloc _ _)).drew (below_alloc _ _)))) HJ.out.1, cell_keep (since_below (since_step HB31.out (below_step (below_step (Below.refl _ _) (below_alloc _ _)).drew (below_alloc _ _)))) HJ.out.2.1, cell_keep (since_below (since_step HB31.out (below_step (below_step (Below.refl _ _) (below_alloc _ _)).drew (below_alloc _ _)))) HJ.out.2.2⟩) | (exact ⟨since_cell (since_step HB31.out (below_step (below_step (Below.refl _ _).drew (below_alloc _ _)) (below_alloc _ _))) 0 _ HVA0.out, cell_keep (since_below (since_step HB31.out (below_step (below_step (Below.refl _ _).drew (below_alloc _ _)) (below_alloc _ _)))) HJ.out.1, cell_keep (since_below (since_step HB31.out (below_step (below_step (Below.refl _ _).drew (below_alloc _ _)) (below_alloc _ _)))) HJ.out.2.1, cell_keep (since_below (since_step HB31.out (below_step (below_step (Below.refl _ _).drew (below_alloc _ _)) (below_alloc _ _)))) HJ.out.2.2⟩) | (exact ⟨since_cell (since_step HBp32.out (Below.refl _ _)) 0 _ HVA0.out, cell_keep (since_below (since_step HBp32.out (Below.refl _ _))) HJ.out.1, cell_keep (since_below (since_step HBp32.out (Below.refl _ _))) HJ.out.2.1, cell_keep (since_below (since_step HBp32.out (Below.refl _ _))) HJ.out.2.2⟩) | (exact ⟨since_cell (since_step HBp32.out (below_step (Below.refl _ _) (below_alloc _ _))) 0 _ HVA0.out, cell_keep (since_below (since_step HBp32.out (below_step (Below.refl _ _) (below_alloc _ _)))) HJ.out.1, cell_keep (since_below (since_step HBp32.out (below_step (Below.refl _ _) (below_alloc _ _)))) HJ.out.2.1, cell_keep (since_below (since_step HBp32.out (below_step (Below.refl _ _) (below_alloc _ _)))) HJ.out.2.2⟩) | (exact ⟨since_cell (since_step HBp32.out (Below.refl _ _).drew) 0 _ HVA0.out, cell_keep (since_below (since_step HBp32.out (Below.refl _ _).drew)) HJ.out.1, cell_keep (since_below (since_step HBp32.out (Below.refl _ _).drew)) HJ.out.2.1, cell_keep (since_below (since_step HBp32.out (Below.refl _ _).drew)) HJ.out.2.2⟩) | (exact ⟨since_cell (since_step HBp32.out (below_step (below_step (Below.refl _ _) (below_alloc _ _)) (below_alloc _ _))) 0 _ HVA0.out, cell_keep (since_below (since_step HBp32.out (below_step (below_step (Below.refl _ _) (below_alloc _ _)) (below_alloc _ _)))) HJ.out.1, cell_keep (since_below (since_step HBp32.out (below_step (below_step (Below.refl _ _) (below_alloc _ _)) (below_alloc _ _)))) HJ.out.2.1, cell_keep (since_below (since_step HBp32.out (below_step (below_step (Below.refl _ _) (below_alloc _ _)) (below_alloc _ _)))) HJ.out.2.2⟩) | (exact ⟨since_cell (since_step HBp32.out (below_step (Below.refl _ _) (below_alloc _ _)).drew) 0 _ HVA0.out, cell_keep (since_below (since_step HBp32.out (below_step (Below.refl _ _) (below_alloc _ _)).drew)) HJ.out.1, cell_keep (since_below (since_step HBp32.out (below_step (Below.refl _ _) (below_alloc _ _)).drew)) HJ.out.2.1, cell_keep (since_below (since_step HBp32.out (below_step (Below.refl _ _) (below_alloc _ _)).drew)) HJ.out.2.2⟩) | (exact ⟨since_cell (since_step HBp32.out (below_step (Below.refl _ _).drew (below_alloc _ _))) 0 _ HVA0.out, cell_keep (since_below (since_step HBp32.out (below_step (Below.refl _ _).drew (below_alloc _ _)))) HJ.out.1, cell_keep (since_below (since_step HBp32.out (below_step (Below.refl _ _).drew (below_alloc _ _)))) HJ.out.2.1, cell_keep (since_below (since_step HBp32.out (below_step (Below.refl _ _).drew (below_alloc _ _)))) HJ.out.2.2⟩) | (exact ⟨since_cell (since_step HBp32.out (below_step (below_step (Below.refl _ _) (below_alloc _ _)) (below_alloc _ _)).drew) 0 _ HVA0.out, cell_keep (since_below (since_step HBp32.out (below_step (below_step (Below.refl _ _) (below_alloc _ _)) (below_alloc _ _)).drew)) HJ.out.1, cell_keep (since_below (since_step HBp32.out (below_step (below_step (Below.refl _ _) (below_alloc _ _)) (below_alloc _ _)).drew)) HJ.out.2.1, cell_keep (since_below (since_step HBp32.out (below_step (below_step (Below.refl _ _) (below_alloc _ _)) (below_alloc _ _)).drew)) HJ.out.2.2⟩) | (exact ⟨since_cell (since_step HBp32.out (below_step (below_step (Below.refl _ _) (below_alloc _ _)).drew (below_alloc _ _))) 0 _ HVA0.out, cell_keep (since_below (since_step HBp32.out (below_step (below_step (Below.refl _ _) (below_alloc _ _)).drew (below_alloc _ _)))) HJ.out.1, cell_keep (since_below (since_step HBp32.out (below_step (below_step (Below.refl _ _) (below_alloc _ _)).drew (below_alloc _ _)))) HJ.out.2.1, cell_keep (since_below (since_step HBp32.out (below_step (below_step (Below.refl _ _) (below_alloc _ _)).drew (below_alloc _ _)))) HJ.out.2.2⟩) | (exact ⟨since_cell (since_step HBp32.out (below_step (below_step (Below.refl _ _).drew (below_alloc _ _)) (below_alloc _ _))) 0 _ HVA0.out, cell_keep (since_below (since_step HBp32.out (below_step (below_step (Below.refl _ _).drew (below_alloc _ _)) (below_alloc _ _)))) HJ.out.1, cell_keep (since_below (since_step HBp32.out (below_step (below_step (Below.refl _ _).drew (below_alloc _ _)) (below_alloc _ _)))) HJ.out.2.1, cell_keep (since_below (since_step HBp32.out (below_step (below_step (Below.refl _ _).drew (below_alloc _ _)) (below_alloc _ _)))) HJ.out.2.2⟩) | (exact ⟨since_cell (since_step HBq32.out (Below.refl _ _)) 0 _ HVA0.out, cell_keep (since_below (since_step HBq32.out (Below.refl _ _))) HJ.out.1, cell_keep (since_below (since_step HBq32.out (Below.refl _ _))) HJ.out.2.1, cell_keep (since_below (since_step HBq32.out (Below.refl _ _))) HJ.out.2.2⟩) | (exact ⟨since_cell (since_step HBq32.out (below_step (Below.refl _ _) (below_alloc _ _))) 0 _ HVA0.out, cell_keep (since_below (since_step HBq32.out (below_step (Below.refl _ _) (below_alloc _ _)))) HJ.out.1, cell_keep (since_below (since_step HBq32.out (below_step (Below.refl _ _) (below_alloc _ _)))) HJ.out.2.1, cell_keep (since_below (since_step HBq32.out (below_step (Below.refl _ _) (below_alloc _ _)))) HJ.out.2.2⟩) | (exact ⟨since_cell (since_step HBq32.out (Below.refl _ _).drew) 0 _ HVA0.out, cell_keep (since_below (since_step HBq32.out (Below.refl _ _).drew)) HJ.out.1, cell_keep (since_below (since_step HBq32.out (Below.refl _ _).drew)) HJ.out.2.1, cell_keep (since_below (since_step HBq32.out (Below.refl _ _).drew)) HJ.out.2.2⟩) | (exact ⟨since_cell (since_step HBq32.out (below_step (below_step (Below.refl _ _) (below_alloc _ _)) (below_alloc _ _))) 0 _ HVA0.out, cell_keep (since_below (since_step HBq32.out (below_step (below_step (Below.refl _ _) (below_alloc _ _)) (below_alloc _ _)))) HJ.out.1, cell_keep (since_below (since_step HBq32.out (below_step (below_step (Below.refl _ _) (below_alloc _ _)) (below_alloc _ _)))) HJ.out.2.1, cell_keep (since_below (since_step HBq32.out (below_step (below_step (Below.refl _ _) (below_alloc _ _)) (below_alloc _ _)))) HJ.out.2.2⟩) | (exact ⟨since_cell (since_step HBq32.out (below_step (Below.refl _ _) (below_alloc _ _)).drew) 0 _ HVA0.out, cell_keep (since_below (since_step HBq32.out (below_step (Below.refl _ _) (below_alloc _ _)).drew)) HJ.out.1, cell_keep (since_below (since_step HBq32.out (below_step (Below.refl _ _) (below_alloc _ _)).drew)) HJ.out.2.1, cell_keep (since_below (since_step HBq32.out (below_step (Below.refl _ _) (below_alloc _ _)).drew)) HJ.out.2.2⟩) | (exact ⟨since_cell (since_step HBq32.out (below_step (Below.refl _ _).drew (below_alloc _ _))) 0 _ HVA0.out, cell_keep (since_below (since_step HBq32.out (below_step (Below.refl _ _).drew (below_alloc _ _)))) HJ.out.1, cell_keep (since_below (since_step HBq32.out (below_step (Below.refl _ _).drew (below_alloc _ _)))) HJ.out.2.1, cell_keep (since_below (since_step HBq32.out (below_step (Below.refl _ _).drew (below_alloc _ _)))) HJ.out.2.2⟩) | (exact ⟨since_cell (since_step HBq32.out (below_step (below_step (Below.refl _ _) (below_alloc _ _)) (below_alloc _ _)).drew) 0 _ HVA0.out, cell_keep (since_below (since_step HBq32.out (below_step (below_step (Below.refl _ _) (below_alloc _ _)) (below_alloc _ _)).drew)) HJ.out.1, cell_keep (since_below (since_step HBq32.out (below_step (below_step (Below.refl _ _) (below_alloc _ _)) (below_alloc _ _)).drew)) HJ.out.2.1, cell_keep (since_below (since_step HBq32.out (below_step (below_step (Below.refl _ _) (below_alloc _ _)) (below_alloc _ _)).drew)) HJ.out.2.2⟩) | (exact ⟨since_cell (since_step HBq32.out (below_step (below_step (Below.refl _ _) (below_alloc _ _)).drew (below_alloc _ _))) 0 _ HVA0.out, cell_keep (since_below (since_step HBq32.out (below_step (below_step (Below.refl _ _) (below_alloc _ _)).drew (below_alloc _ _)))) HJ.out.1, cell_keep (since_below (since_step HBq32.out (below_step (below_step (Below.refl _ _) (below_alloc _ _)).drew (below_alloc _ _)))) HJ.out.2.1, cell_keep (since_below (since_step HBq32.out (below_step (below_step (Below.refl _ _) (below_alloc _ _)).drew (below_alloc _ _)))) HJ.out.2.2⟩) | (exact ⟨since_cell (since_step HBq32.out (below_step (below_step (Below.refl _ _).drew (below_alloc _ _)) (below_alloc _ _))) 0 _ HVA0.out, cell_keep (since_below (since_step HBq32.out (below_step (below_step (Below.refl _ _).drew (below_alloc _ _)) (below_alloc _ _)))) HJ.out.1, cell_keep (since_below (since_step HBq32.out (below_step (below_step (Below.refl _ _).drew (below_alloc _ _)) (below_alloc _ _)))) HJ.out.2.1, cell_keep (since_below (since_step HBq32.out (below_step (below_step (Below.refl _ _).drew (below_alloc _ _)) (below_alloc _ _)))) HJ.out.2.2⟩))
                    ((first
                      | (go_at_call 50; (with_reducible refine (two_at _ y32a y32b HX32.out.1 HX32.out.2 HAB32.out _).mono ?_); rintro e wx ⟨rfl, rfl⟩)
                      | (refine step_g2 (IntKind.u8.wrap y1) (IntKind.u8.wrap y2) (.tmp 93) (.tmp 108) rfl rfl _ HO31 rfl rfl HR32 (since_size HB31.out) (by with_reducible first | exact (Below.refl _ _) | exact (below_step (Below.refl _ _) (below_alloc _ _)) | exact (Below.refl _ _).drew | exact (below_step (below_step (Below.refl _ _) (below_alloc _ _)) (below_alloc _ _)) | exact (below_step (Below.refl _ _) (below_alloc _ _)).drew | exact (below_step (Below.refl _ _).drew (below_alloc _ _)) | exact (below_step (below_step (Below.refl _ _) (below_alloc _ _)) (below_alloc _ _)).drew | exact (below_step (below_step (Below.refl _ _) (below_alloc _ _)).drew (below_alloc _ _)) | exact (below_step (below_step (Below.refl _ _).drew (below_alloc _ _)) (below_alloc _ _))) (by with_reducible first | exact (box_new' _ _ _ (by first | rfl | simp)) | exact (box_al _ (box_new' _ _ _ (by first | rfl | simp))) | exact (box_dr (box_new' _ _ _ (by first | rfl | simp))) | exact (box_dr (box_al _ (box_new' _ _ _ (by first | rfl | simp)))) | exact (box_al _ (box_dr (box_new' _ _ _ (by first | rfl | simp))))) ?_; intro vp32 wp32 ho hb he; have HEp32 := Lib.hid he; have HOp32 := Lib.hid ho; have HBp32 := Lib.hid (since_ext HB31.out hb HO31.out); clear ho hb he)
                      | (refine step_g2 y32a y32b (.tmp 109) (.tmp 116) rfl rfl _ HOp32 rfl rfl HR33 (since_size HBp32.out) (by with_reducible first | exact (Below.refl _ _) | exact (below_step (Below.refl _ _) (below_alloc _ _)) | exact (Below.refl _ _).drew | exact (below_step (Below.refl _ _) (below_alloc _ _)).drew | exact (below_step (Below.refl _ _).drew (below_alloc _ _))) (by with_reducible first | exact (box_new' _ _ _ (by first | rfl | simp)) | exact (box_dr (box_new' _ _ _ (by first | rfl | simp))) | exact (HEp32.out.box (box_new' _ _ _ (by first | rfl | simp)) (own_ne HO31.out (by simp <;> omega))) | exact (HEp32.out.box (box_al _ (box_new' _ _ _ (by first | rfl | simp))) (own_ne HO31.out (by simp <;> omega))) | exact (HEp32.out.box (box_dr (box_new' _ _ _ (by first | rfl | simp))) (own_ne HO31.out (by simp <;> omega))) | exact (HEp32.out.box (box_dr (box_al _ (box_new' _ _ _ (by first | rfl | simp)))) (own_ne HO31.out (by simp <;> omega))) | exact (HEp32.out.box (box_al _ (box_dr (box_new' _ _ _ (by first | rfl | simp)))) (own_ne HO31.out (by simp <;> omega))) | exact (box_dr (HEp32.out.box (box_new' _ _ _ (by first | rfl | simp)) (own_ne HO31.out (by simp <;> omega)))) | exact (box_dr (HEp32.out.box (box_al _ (box_new' _ _ _ (by first | rfl | simp))) (own_ne HO31.out (by simp <;> omega)))) | exact (box_dr (HEp32.out.box (box_dr (box_new' _ _ _ (by first | rfl | simp))) (own_ne HO31.out (by simp <;> omega)))) | exact (box_dr (HEp32.out.box (box_dr (box_al _ (box_new' _ _ _ (by first | rfl | simp)))) (own_ne HO31.out (by simp <;> omega)))) | exact (box_dr (HEp32.out.box (box_al _ (box_dr (box_new' _ _ _ (by first | rfl | simp)))) (own_ne HO31.out (by simp <;> omega))))) ?_; intro vq32 wq32 ho hb he; have HOq32 := Lib.hid ho; have HBq32 := Lib.hid (since_ext HBp32.out hb HOp32.out); clear ho hb he)))
                  go_wp2
                  go_roundw
                  case rel =>
                    refine ⟨k + 1, by omega, by go_num, ?_, by rw [← HVA.out]; exact HBq32.out⟩
                    rw [← HVA.out]
                    have := HOq32.out
                    have e1 : IntKind.u8.wrap y1 = y1 % 256 := by rw [IntKind.wrap_u8]
                    have e2 : IntKind.u8.wrap y2 = y2 % 256 := by rw [IntKind.wrap_u8]
                    rw [HST.out, tyB, HAB32.out]
                    rw [e1, e2] at this
                    have e3 : be y1 1 = [y1 % 256] := by simp [be]
                    have e4 : be y2 1 = [y2 % 256] := by simp [be]
                    rw [e3, e4]
                    simpa only [List.append_assoc, List.cons_append, List.nil_append] using this
                  case measure => exact own_meas hlt
                · obtain rfl : n0 = k := by omega
                  have ho32 := HO31.out
                  rw [List.take_of_length_le (by have := HL0.out; omega)] at ho32
                  have HO32 := Lib.hid ho32
                  clear ho32 HO31
                  have x1 := since_cell HB31.out 1 _ rfl
                  go_wp2
                  clear x1 x0
                  go_loopw [3, 8] (fun v i wr => ∃ j : Nat, j ≤ n1 ∧ i = .int .i64 j ∧ Own8 wr (bs w #[.slice A0 n0 c0, .slice A1 n1 c1, .slice A2 n2 c2, .slice A3 n3 c3, .int .i64 s]) v (((((((((([239, 0, 1, 1] ++ be (4 * (n1 : Int)) 2) ++ [2]) ++ be (n1 : Int) 2) ++ ((lens c.codes).flatMap fun x => be x 2)) ++ part3 (lens c.subs)) ++ [255]) ++ be s 2) ++ [0]) ++ c.types.flatMap tyB) ++ (c.codes.take j).flatten) ∧ Since w #[.slice A0 n0 c0, .slice A1 n1 c1, .slice A2 n2 c2, .slice A3 n3 c3, .int .i64 s] wr) (fun _ i _ => n1 - (intOf i).toNat)
                  case atStart => exact ⟨0, Nat.zero_le _, rfl, by have := HO32.out; simpa using this, HB31.out⟩
                  case round =>
                    obtain ⟨j, hj, rfl, ho, hb⟩ := hrel
                    have HO33 := Lib.hid ho
                    have HB33 := Lib.hid hb
                    clear ho hb HO32
                    have x1 := since_cell HB33.out 1 _ rfl
                    by_cases hlj : j < n1
                    · have hk2 : j < c.codes.length := by have := HL1.out; omega
                      have hst := flatten_snoc c.codes j hk2
                      obtain ⟨b1, o1, hA1, hcc⟩ := (HC.out.mono (since_below HB33.out)).2 (by omega)
                      obtain ⟨p, hcell, hp⟩ := hcc j hk2
                      have hsum := sumL_snoc c.codes j hk2
                      have hbd := sumL_take_le 65535 c.codes (j + 1) (fun l hl => (HM.out.code l hl).2)
                      obtain ⟨l, hl⟩ : ∃ l, l = c.codes.getD j [] := ⟨_, rfl⟩
                      rw [← hl] at hp hst hsum
                      have HP := Lib.hid hp
                      have HST := Lib.hid hst
                      have HR7 : Hid ((((((((((([239, 0, 1, 1] ++ be (4 * (n1 : Int)) 2) ++ [2]) ++ be (n1 : Int) 2) ++ ((lens c.codes).flatMap fun x => be x 2)) ++ part3 (lens c.subs)) ++ [255]) ++ be s 2) ++ [0]) ++ c.types.flatMap tyB) ++ (c.codes.take j).flatten).length + l.length ≤ reach) := Lib.hid (by
                        simp only [List.length_append, be_length, List.length_cons, List.length_nil, lens_flat_length, tysB_length]
                        have := HP3.out; have := HL1.out; have := HL2.out; have := HL0.out; have := HGN.out
                        have h8 : c.codes.length * 65535 ≤ 1024 * 65535 := Nat.mul_le_mul_right _ (by omega)
                        unfold sumL at hsum hbd
                        unfold reach
                        omega)
                      subst hA1
                      clear hl hst hsum hbd hp hcc
                      go_wp2_with (at_builtin; refine app_list (.tmp 125) (.tmp 130) rfl rfl _ _ _ _ l rfl HO33 rfl HP (since_size HB33.out) HR7 ?_)
                      intro v34 w34 ho hb
                      have HO34 := Lib.hid ho
                      have HB34 := Lib.hid (since_trans HB33.out hb)
                      clear ho hb
                      go_wp2
                      go_roundw
                      case rel => exact ⟨j + 1, by omega, by go_num, by have := HO34.out; rw [HST.out]; simpa only [List.append_assoc, List.cons_append, List.nil_append] using this, HB34.out⟩
                      case measure => exact own_meas hlj
                    · obtain rfl : n1 = j := by omega
                      have ho34 := HO33.out
                      rw [List.take_of_length_le (by have := HL1.out; omega)] at ho34
                      have HO34 := Lib.hid ho34
                      clear ho34 HO33
                      have x2 := since_cell HB33.out 2 _ rfl
                      go_wp2
                      clear x2 x1
                      go_loopw [3, 9] (fun v i wr => ∃ i3 : Nat, i3 ≤ n2 ∧ i = .int .i64 i3 ∧ Own8 wr (bs w #[.slice A0 n0 c0, .slice A1 n1 c1, .slice A2 n2 c2, .slice A3 n3 c3, .int .i64 s]) v ((((((((((([239, 0, 1, 1] ++ be (4 * (n1 : Int)) 2) ++ [2]) ++ be (n1 : Int) 2) ++ ((lens c.codes).flatMap fun x => be x 2)) ++ part3 (lens c.subs)) ++ [255]) ++ be s 2) ++ [0]) ++ c.types.flatMap tyB) ++ c.codes.flatten) ++ (c.subs.take i3).flatten) ∧ Since w #[.slice A0 n0 c0, .slice A1 n1 c1, .slice A2 n2 c2, .slice A3 n3 c3, .int .i64 s] wr) (fun _ i _ => n2 - (intOf i).toNat)
                      case atStart => exact ⟨0, Nat.zero_le _, rfl, by have := HO34.out; simpa using this, HB33.out⟩
                      case round =>
                        obtain ⟨i3, hj3, rfl, ho, hb⟩ := hrel
                        have HO35 := Lib.hid ho
                        have HB35 := Lib.hid hb
                        clear ho hb HO34
                        have hbc := sumL_le 65535 c.codes (fun l hl => (HM.out.code l hl).2)
                        have x2 := since_cell HB35.out 2 _ rfl
                        by_cases hl3 : i3 < n2
                        · have hk2 : i3 < c.subs.length := by have := HL2.out; omega
                          have hst := flatten_snoc c.subs i3 hk2
                          obtain ⟨b1, o1, hA2, hcc⟩ := (HS.out.mono (since_below HB35.out)).2 (by omega)
                          obtain ⟨p, hcell, hp⟩ := hcc i3 hk2
                          have hsum := sumL_snoc c.subs i3 hk2
                          have hbd := sumL_take_le 4294967295 c.subs (i3 + 1) (fun l hl => (HM.out.sub l hl).2)
                          obtain ⟨l, hl⟩ : ∃ l, l = c.subs.getD i3 [] := ⟨_, rfl⟩
                          rw [← hl] at hp hst hsum
                          have HP := Lib.hid hp
                          have HST := Lib.hid hst
                          have HR9 : Hid (((((((((((([239, 0, 1, 1] ++ be (4 * (n1 : Int)) 2) ++ [2]) ++ be (n1 : Int) 2) ++ ((lens c.codes).flatMap fun x => be x 2)) ++ part3 (lens c.subs)) ++ [255]) ++ be s 2) ++ [0]) ++ c.types.flatMap tyB) ++ c.codes.flatten) ++ (c.subs.take i3).flatten).length + l.length ≤ reach) := Lib.hid (by
                            simp only [List.length_append, be_length, List.length_cons, List.length_nil, lens_flat_length, tysB_length]
                            have := HP3.out; have := HL1.out; have := HL2.out; have := HL0.out; have := HGN.out
                            have h8 : c.codes.length * 65535 ≤ 1024 * 65535 := Nat.mul_le_mul_right _ (by omega)
                            have h7 : c.subs.length * 4294967295 ≤ 256 * 4294967295 := Nat.mul_le_mul_right _ (by omega)
                            unfold sumL at hsum hbd hbc
                            unfold reach
                            omega)
                          subst hA2
                          clear hl hst hsum hbd hp hcc hbc
                          go_wp2_with (at_builtin; refine app_list (.tmp 139) (.tmp 144) rfl rfl _ _ _ _ l rfl HO35 rfl HP (since_size HB35.out) HR9 ?_)
                          intro v36 w36 ho hb
                          have HO36 := Lib.hid ho
                          have HB36 := Lib.hid (since_trans HB35.out hb)
                          clear ho hb
                          go_wp2
                          go_roundw
                          case rel => exact ⟨i3 + 1, by omega, by go_num, by have := HO36.out; rw [HST.out]; simpa only [List.append_assoc, List.cons_append, List.nil_append] using this, HB36.out⟩
                          case measure => exact own_meas hl3
                        · obtain rfl : n2 = i3 := by omega
                          have ho36 := HO35.out
                          rw [List.take_of_length_le (by have := HL2.out; omega)] at ho36
                          have HO36 := Lib.hid ho36
                          clear ho36 HO35
                          have x3 := since_cell HB35.out 3 _ rfl
                          have HP := Lib.hid (HD.out.mono (since_below HB35.out))
                          have HR10 : Hid (((((((((((([239, 0, 1, 1] ++ be (4 * (n1 : Int)) 2) ++ [2]) ++ be (n1 : Int) 2) ++ ((lens c.codes).flatMap fun x => be x 2)) ++ part3 (lens c.subs)) ++ [255]) ++ be s 2) ++ [0]) ++ c.types.flatMap tyB) ++ c.codes.flatten) ++ c.subs.flatten).length + c.data.length ≤ reach) := Lib.hid (by
                            simp only [List.length_append, be_length, List.length_cons, List.length_nil, lens_flat_length, tysB_length]
                            have := HP3.out; have := HL1.out; have := HL2.out; have := HL0.out; have := HL3.out; have := HGN.out
                            have h8 : c.codes.length * 65535 ≤ 1024 * 65535 := Nat.mul_le_mul_right _ (by omega)
                            have h7 : c.subs.length * 4294967295 ≤ 256 * 4294967295 := Nat.mul_le_mul_right _ (by omega)
                            have hbd := sumL_le 4294967295 c.subs (fun l hl => (HM.out.sub l hl).2)
                            unfold sumL at hbd hbc
                            unfold reach
                            omega)
                          clear hbc
                          go_wp2_with (at_builtin; refine app_list (.tmp 146) (.tmp 148) rfl rfl _ _ _ _ c.data rfl HO36 rfl HP (since_size HB35.out) HR10 ?_)
                          intro v37 w37 ho hb
                          have HO37 := Lib.hid ho
                          have HB37 := Lib.hid (since_trans HB35.out hb)
                          clear ho hb
                          go_wp2
                          go_ret
                          refine ⟨v37, rfl, ?_, since_below HB37.out⟩
                          have := HO37.out
                          have e9 : serB c = ((((((((((([239, 0, 1, 1] ++ be (4 * (n1 : Int)) 2) ++ [2]) ++ be (n1 : Int) 2) ++ ((lens c.codes).flatMap fun x => be x 2)) ++ part3 (lens c.subs)) ++ [255]) ++ be s 2) ++ [0]) ++ c.types.flatMap tyB) ++ c.codes.flatten) ++ c.subs.flatten) ++ c.data := by
                            rw [serB, HSZ.out, headB, lens_length, HL1.out]
                            try simp only [List.append_assoc, List.cons_append, List.nil_append]
                          rw [e9]
                          simpa only [List.append_assoc, List.cons_append, List.nil_append] using this
/-- bytes, of a container that may be. -/
theorem bytes_any (v : Value) (c : Cont) (w : World) (h : ContV w v c) (hm : May c) : Calls Try.prog 28 #[v] w fun e w' => ∃ v', e = .returned v' ∧ Own8 w' w.heap.size v' (serB c) ∧ Below w.heap.size w w' := by
  obtain ⟨vt, vc, vs, vd, rfl, ⟨A0, c0, rfl, _, _, _, ht⟩, ⟨A1, c1, rfl, _, _, hc⟩, ⟨A2, c2, rfl, _, _, hs⟩, hd⟩ := h
  have hd' := hd
  obtain ⟨A3, c3, rfl, _⟩ := hd'
  refine (bytes_yes A0 A1 A2 A3 _ _ _ _ c0 c1 c2 c3 c w _ rfl rfl rfl rfl rfl hm ht hc hs hd).mono ?_
  rintro e w' ⟨v', rfl, ho, hb⟩
  exact ⟨v', rfl, ho.base (by unfold bs; simp), hb⟩
/-- The bytes that bytes tells, read. -/
theorem bytes_c (v : Value) (c : Cont) (n : Nat) (w : World) (h : ContV w v c) (hm : May c) (hn : (serB c).length = n) (hr : n ≤ reach) : Calls Try.prog 28 #[v] w (OwnPost (serB c) n w) := by
  refine (bytes_any v c w h hm).mono ?_
  rintro e w' ⟨v', rfl, ho, hb⟩
  obtain ⟨A, cc, rfl, h1⟩ := ho.reads (by omega)
  subst hn
  exact ⟨A, cc, rfl, ⟨A, cc, rfl, h1⟩, hb⟩
end Go.Proofs.Ytkbboepopcebaaa
