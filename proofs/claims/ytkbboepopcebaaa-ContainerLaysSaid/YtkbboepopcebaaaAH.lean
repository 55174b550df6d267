/- Parse: from its beginning to the sizes. -/
import Derived.Test.YtkbboepopcebaaaAG
namespace Go.Proofs.Ytkbboepopcebaaa
open Go.RowKit

set_option maxRecDepth 100000 in
set_option maxHeartbeats 8000000 in
theorem parse_any (A : Option Addr) (n c : Nat) (o : Bool) (b : List Int) (w : World) (hb : NumsR w .u8 A b) (hy : Byt b) (hn : b.length = n) (hnc : n ≤ c) :
    Calls Try.prog 29 #[.slice A n c, .bool o] w (PPost b o w) := by
  have hmx : n ≤ 140737488351232 := by have := hb.1; unfold reach at *; omega
  have HBB := Lib.hid hb; clear hb
  have HY := Lib.hid hy; clear hy
  have HN := Lib.hid hn; clear hn
  have hmf : ∀ (fn : Fn) (first cap : Array Value) (w : World), (Instr.makeFunc fn first cap).run Try.prog w = .ok (.func fn first cap) w := fun _ _ _ _ => rfl
  obtain ⟨P0, hP0⟩ : ∃ x, x = parse b o := ⟨_, rfl⟩
  have HPQ : Hid (parse b o = P0) := Lib.hid hP0.symm
  unfold parse at hP0
  have HP0 := Lib.hid hP0
  have hs0 := PSx.start w A n c
  go_enter_defers Try.func29, Try.ntmps29
  go_wp2_with fail
  obtain ⟨C, hC⟩ : ∃ C, C = w.heap.size := ⟨_, rfl⟩
  obtain ⟨E, hE⟩ : ∃ E, E = C + 1 := ⟨_, rfl⟩
  obtain ⟨R, hR⟩ : ∃ R, R = E + 1 := ⟨_, rfl⟩
  rw [← hC, ← hE, ← hR] at hs0
  rw [← hC, ← hE, ← hR]
  obtain ⟨w1, hw1⟩ : ∃ w1, w1 = W3 w A n c := ⟨_, rfl⟩
  rw [← hw1] at hs0
  unfold W3 at hw1
  rw [← hw1]
  have HS0 := Lib.hid hs0
  have HCR : Hid (C < R) := Lib.hid (by omega)
  have HER : Hid (E < R) := Lib.hid (by omega)
  clear hs0 hw1 hC hE hR hP0
  by_cases c1 : b.length < 0 + 1
  · refine (want_cut R A n c 0 239 51 w1 HS0.out.rd (by omega) (by omega) (by have := HN.out; omega) (by have := HN.out; omega)).mono ?_
    rintro e w2 ⟨rfl, rfl⟩
    exact HS0.out.bad (grown_refl _ _) (HPQ.out.trans (HP0.out.trans ((needB_cut c1).trans (by rw [HN.out])))) rfl rfl
  by_cases d1 : num b 0 1 = 239
  case neg =>
    refine (want_no w R A n c 0 239 51 _ b w1 HBB.out HY.out HN.out HS0.out.below HS0.out.r HS0.out.rd (by omega) (by have := HN.out; omega) rfl d1).mono ?_
    rintro e w2 ⟨rfl, hg⟩
    exact HS0.out.bad hg (HPQ.out.trans (HP0.out.trans (needB_no c1 d1))) rfl rfl
  refine (want_yes w R A n c 0 239 51 b w1 HBB.out HY.out HN.out HS0.out.below HS0.out.r HS0.out.rd (by omega) (by have := HN.out; omega) d1).mono ?_
  rintro e x1 ⟨rfl, hrd, hg⟩
  have HS1 := Lib.hid (HS0.out.next hg hrd)
  have HG1 := Lib.hid hg
  have HP1 := Lib.hid (HP0.out.trans (needB_yes c1 d1))
  clear HS0 HP0 hrd hg d1
  go_wp2_with fail
  by_cases c2 : b.length < 1 + 1
  · refine (want_cut R A n c 1 0 51 x1 HS1.out.rd (by omega) (by omega) (by have := HN.out; omega) (by have := HN.out; omega)).mono ?_
    rintro e w2 ⟨rfl, rfl⟩
    exact HS1.out.bad (grown_refl _ _) (HPQ.out.trans (HP1.out.trans ((needB_cut c2).trans (by rw [HN.out])))) rfl rfl
  by_cases d2 : num b 1 1 = 0
  case neg =>
    refine (want_no w R A n c 1 0 51 _ b x1 HBB.out HY.out HN.out HS1.out.below HS1.out.r HS1.out.rd (by omega) (by have := HN.out; omega) rfl d2).mono ?_
    rintro e w2 ⟨rfl, hg⟩
    exact HS1.out.bad hg (HPQ.out.trans (HP1.out.trans (needB_no c2 d2))) rfl rfl
  refine (want_yes w R A n c 1 0 51 b x1 HBB.out HY.out HN.out HS1.out.below HS1.out.r HS1.out.rd (by omega) (by have := HN.out; omega) d2).mono ?_
  rintro e x2 ⟨rfl, hrd, hg⟩
  have HS2 := Lib.hid (HS1.out.next hg hrd)
  have HG2 := Lib.hid hg
  have HP2 := Lib.hid (HP1.out.trans (needB_yes c2 d2))
  clear HS1 HP1 hrd hg d2
  go_wp2_with fail
  by_cases c3 : b.length < 2 + 1
  · refine (want_cut R A n c 2 1 52 x2 HS2.out.rd (by omega) (by omega) (by have := HN.out; omega) (by have := HN.out; omega)).mono ?_
    rintro e w2 ⟨rfl, rfl⟩
    exact HS2.out.bad (grown_refl _ _) (HPQ.out.trans (HP2.out.trans ((needB_cut c3).trans (by rw [HN.out])))) rfl rfl
  by_cases d3 : num b 2 1 = 1
  case neg =>
    refine (want_no w R A n c 2 1 52 _ b x2 HBB.out HY.out HN.out HS2.out.below HS2.out.r HS2.out.rd (by omega) (by have := HN.out; omega) rfl d3).mono ?_
    rintro e w2 ⟨rfl, hg⟩
    exact HS2.out.bad hg (HPQ.out.trans (HP2.out.trans (needB_no c3 d3))) rfl rfl
  refine (want_yes w R A n c 2 1 52 b x2 HBB.out HY.out HN.out HS2.out.below HS2.out.r HS2.out.rd (by omega) (by have := HN.out; omega) d3).mono ?_
  rintro e x3 ⟨rfl, hrd, hg⟩
  have HS3 := Lib.hid (HS2.out.next hg hrd)
  have HG3 := Lib.hid hg
  have HP3 := Lib.hid (HP2.out.trans (needB_yes c3 d3))
  clear HS2 HP2 hrd hg d3
  go_wp2_with fail
  by_cases c4 : b.length < 3 + 1
  · refine (want_cut R A n c 3 1 53 x3 HS3.out.rd (by omega) (by omega) (by have := HN.out; omega) (by have := HN.out; omega)).mono ?_
    rintro e w2 ⟨rfl, rfl⟩
    exact HS3.out.bad (grown_refl _ _) (HPQ.out.trans (HP3.out.trans ((needB_cut c4).trans (by rw [HN.out])))) rfl rfl
  by_cases d4 : num b 3 1 = 1
  case neg =>
    refine (want_no w R A n c 3 1 53 _ b x3 HBB.out HY.out HN.out HS3.out.below HS3.out.r HS3.out.rd (by omega) (by have := HN.out; omega) rfl d4).mono ?_
    rintro e w2 ⟨rfl, hg⟩
    exact HS3.out.bad hg (HPQ.out.trans (HP3.out.trans (needB_no c4 d4))) rfl rfl
  refine (want_yes w R A n c 3 1 53 b x3 HBB.out HY.out HN.out HS3.out.below HS3.out.r HS3.out.rd (by omega) (by have := HN.out; omega) d4).mono ?_
  rintro e x4 ⟨rfl, hrd, hg⟩
  have HS4 := Lib.hid (HS3.out.next hg hrd)
  have HG4 := Lib.hid hg
  have HP4 := Lib.hid (HP3.out.trans (needB_yes c4 d4))
  clear HS3 HP3 hrd hg d4
  go_wp2_with fail
  by_cases c5 : b.length < 4 + 2
  · refine (next_cut R A n c 4 2 x4 HS4.out.rd (by omega) (by omega) (by have := HN.out; omega) (by omega) (by omega) (by have := HN.out; omega)).mono ?_
    rintro e w2 ⟨rfl, rfl⟩
    exact HS4.out.bad (grown_refl _ _) (HPQ.out.trans (HP4.out.trans ((readB_cut c5).trans (by rw [HN.out])))) rfl rfl
  obtain ⟨four, hfour⟩ : ∃ x, x = num b 4 2 := ⟨_, rfl⟩
  have bfour := num_bd HY.out 4 2
  rw [← hfour] at bfour
  have hr5 := next_ok w R A n c 4 2 b x4 HBB.out HY.out HN.out HS4.out.below HS4.out.r HS4.out.rd (by omega) (by omega) (by omega) (by have := HN.out; omega)
  rw [show (4 : Int).toNat = 4 from rfl, show (2 : Int).toNat = 2 from rfl, ← hfour] at hr5
  have hp5 := HP4.out.trans (readB_yes c5)
  rw [← hfour] at hp5
  have HP5 := Lib.hid hp5
  have Hfour := Lib.hid hfour
  clear hp5 hfour
  refine hr5.mono ?_
  clear hr5
  rintro e x5 ⟨rfl, hrd, hg⟩
  have HS5 := Lib.hid (HS4.out.next hg hrd)
  have HG5 := Lib.hid hg
  clear HS4 HP4 hrd hg
  have B4 := Lib.hid bfour
  have b0 := bfour.1
  clear bfour
  by_cases p1 : 0 < four
  case neg =>
    have up1 : decide (0 < four) = false := by simpa using p1
    have Np1 := Lib.hid p1
    clear p1
    go_wp2_with fail
    refine (ask_no _ _ _ _).mono ?_
    rintro e w2 ⟨rfl, rfl⟩
    exact HS5.out.bad (grown_refl _ _) (HPQ.out.trans (HP5.out.trans (askB_no (decide_eq_false (by have := Np1.out; omega))))) rfl rfl
  have up1 : decide (0 < four) = true := by simpa using p1
  have Pp1 := Lib.hid p1
  clear p1
  by_cases p2 : four % 4 = 0
  case neg =>
    have q2 : ¬ Int.tmod four 4 = 0 := by rw [Int.tmod_eq_emod_of_nonneg b0]; exact p2
    have Np2 := Lib.hid p2
    clear p2
    go_wp2_with fail
    refine (ask_no _ _ _ _).mono ?_
    rintro e w2 ⟨rfl, rfl⟩
    exact HS5.out.bad (grown_refl _ _) (HPQ.out.trans (HP5.out.trans (askB_no (decide_eq_false (by have := Np2.out; omega))))) rfl rfl
  have q2 : Int.tmod four 4 = 0 := by rw [Int.tmod_eq_emod_of_nonneg b0]; exact p2
  clear b0
  have Pp2 := Lib.hid p2
  clear p2
  by_cases p3 : four ≤ 4096
  case neg =>
    have up3 : decide (four ≤ 4096) = false := by simpa using p3
    have Np3 := Lib.hid p3
    clear p3
    go_wp2_with fail
    refine (ask_no _ _ _ _).mono ?_
    rintro e w2 ⟨rfl, rfl⟩
    exact HS5.out.bad (grown_refl _ _) (HPQ.out.trans (HP5.out.trans (askB_no (decide_eq_false (by have := Np3.out; omega))))) rfl rfl
  have up3 : decide (four ≤ 4096) = true := by simpa using p3
  have Pp3 := Lib.hid p3
  clear p3
  go_wp2_with fail
  refine (ask_yes _ _ _ _).mono ?_
  rintro e w2 ⟨rfl, rfl⟩
  have HP6 := Lib.hid (HP5.out.trans (askB_yes (decide_eq_true (by have := Pp1.out; have := Pp2.out; have := Pp3.out; omega))))
  clear HP5
  clear up1 q2 up3
  go_wp2_with fail
  by_cases c7 : b.length < 6 + 1
  · refine (want_cut R A n c 6 2 53 x5 HS5.out.rd (by omega) (by omega) (by have := HN.out; omega) (by have := HN.out; omega)).mono ?_
    rintro e w2 ⟨rfl, rfl⟩
    exact HS5.out.bad (grown_refl _ _) (HPQ.out.trans (HP6.out.trans ((needB_cut c7).trans (by rw [HN.out])))) rfl rfl
  by_cases d7 : num b 6 1 = 2
  case neg =>
    refine (want_no w R A n c 6 2 53 _ b x5 HBB.out HY.out HN.out HS5.out.below HS5.out.r HS5.out.rd (by omega) (by have := HN.out; omega) rfl d7).mono ?_
    rintro e w2 ⟨rfl, hg⟩
    exact HS5.out.bad hg (HPQ.out.trans (HP6.out.trans (needB_no c7 d7))) rfl rfl
  refine (want_yes w R A n c 6 2 53 b x5 HBB.out HY.out HN.out HS5.out.below HS5.out.r HS5.out.rd (by omega) (by have := HN.out; omega) d7).mono ?_
  rintro e x7 ⟨rfl, hrd, hg⟩
  have HS7 := Lib.hid (HS5.out.next hg hrd)
  have HG7 := Lib.hid hg
  have HP7 := Lib.hid (HP6.out.trans (needB_yes c7 d7))
  clear HS5 HP6 hrd hg d7
  go_wp2_with fail
  by_cases c8 : b.length < 7 + 2
  · refine (next_cut R A n c 7 2 x7 HS7.out.rd (by omega) (by omega) (by have := HN.out; omega) (by omega) (by omega) (by have := HN.out; omega)).mono ?_
    rintro e w2 ⟨rfl, rfl⟩
    exact HS7.out.bad (grown_refl _ _) (HPQ.out.trans (HP7.out.trans ((readB_cut c8).trans (by rw [HN.out])))) rfl rfl
  obtain ⟨nn, hnn⟩ : ∃ x, x = num b 7 2 := ⟨_, rfl⟩
  have bnn := num_bd HY.out 7 2
  rw [← hnn] at bnn
  have hr8 := next_ok w R A n c 7 2 b x7 HBB.out HY.out HN.out HS7.out.below HS7.out.r HS7.out.rd (by omega) (by omega) (by omega) (by have := HN.out; omega)
  rw [show (7 : Int).toNat = 7 from rfl, show (2 : Int).toNat = 2 from rfl, ← hnn] at hr8
  have hp8 := HP7.out.trans (readB_yes c8)
  rw [← hnn] at hp8
  have HP8 := Lib.hid hp8
  have Hnn := Lib.hid hnn
  clear hp8 hnn
  refine hr8.mono ?_
  clear hr8
  rintro e x8 ⟨rfl, hrd, hg⟩
  have HS8 := Lib.hid (HS7.out.next hg hrd)
  have HG8 := Lib.hid hg
  clear HS7 HP7 hrd hg
  have b2 := bnn.1
  have b3 : nn < 65536 := bnn.2
  have hw4 : IntKind.i64.wrap (4 * nn) = 4 * nn := IntWalk.i64_in _ (by omega)
  have B7 := Lib.hid bnn
  clear bnn b2 b3
  by_cases p4 : 4 * nn = four
  case neg =>
    have up4 : ((4 * nn : Int) == four) = false := by simpa using p4
    have Np4 := Lib.hid p4
    clear p4
    go_wp2_with fail
    refine (ask_no _ _ _ _).mono ?_
    rintro e w2 ⟨rfl, rfl⟩
    exact HS8.out.bad (grown_refl _ _) (HPQ.out.trans (HP8.out.trans (askB_no (decide_eq_false (by have := Np4.out; omega))))) rfl rfl
  have up4 : ((4 * nn : Int) == four) = true := by simpa using p4
  have Pp4 := Lib.hid p4
  clear p4
  go_wp2_with fail
  refine (ask_yes _ _ _ _).mono ?_
  rintro e w2 ⟨rfl, rfl⟩
  have HP9 := Lib.hid (HP8.out.trans (askB_yes (decide_eq_true (by have := Pp4.out; omega))))
  clear HP8
  obtain ⟨N, hNN⟩ : ∃ N : Nat, nn = (N : Int) := ⟨nn.toNat, by have := B7.out.1; omega⟩
  subst hNN
  clear hw4
  rename_i K1 h1 K2 h2
  refine h2 _ _ (show K1 _ _ from h1 _ _ ?_)
  clear h1 h2
  have hp9 := HP9.out
  rw [Int.toNat_natCast] at hp9
  exact st12 A n c o b w HBB.out HY.out HN.out hnc C E R N four _ (HS8.out.at (by omega)) HCR.out HER.out (by have := Pp3.out; have := Pp4.out; omega) (by have := HN.out; omega) Pp4.out (HPQ.out.trans hp9) _ _ _ _ _ _ _ _ _ _ _ _ _ _ _ _ _ _ _ _ _ _ _ _ _ _ _ _ _ _ _ _ _ _ _ _ _ _ _ _ _ _ _ _ _ _ _ _ _ _ _ _ _ _
end Go.Proofs.Ytkbboepopcebaaa
