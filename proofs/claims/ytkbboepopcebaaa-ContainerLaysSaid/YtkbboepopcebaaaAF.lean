/- Parse from the declared size on. -/
import Derived.Test.YtkbboepopcebaaaAE
namespace Go.Proofs.Ytkbboepopcebaaa
open Go.RowKit

set_option maxRecDepth 100000 in
set_option maxHeartbeats 8000000 in
theorem st22 (A : Option Addr) (n c : Nat) (o : Bool) (b : List Int) (w : World) (hb : NumsR w .u8 A b) (hy : Byt b) (hn : b.length = n) (hnc : n ≤ c) (C E R N a : Nat) (four sc ss : Int) (codes subs : List Int) (v10 v12 : Value) (x : World)
    (hs : PSx w x C E R A n c a (.slice none 0 0) (.slice none 0 0) (.slice none 0 0) (.slice none 0 0) (.int .i64 0)) (hCR : C < R) (hER : E < R) (h10 : Lst x R v10 codes) (h12 : Lst x R v12 subs) (hN : codes.length = N) (hN2 : N ≤ 1024) (ha : 1 ≤ a) (han : a ≤ n) (hM : subs.length ≤ 256) (hp1 : ∀ x ∈ codes, 1 ≤ x) (hp2 : ∀ x ∈ subs, 1 ≤ x)
    (h4 : 4 * (N : Int) = four) (hsc : codes.sum = sc) (hss : subs.sum = ss) (hsc2 : sc ≤ 1099511627776) (hss2 : ss ≤ 1099511627776)
    (hp : parse b o = parseEnd b o four N codes subs a)
    (u8 u14 u15 u16 u17 u18 u19 u20 u21 u22 u23 u24 u25 u26 u27 u28 u29 u30 u31 u32 u33 u34 u35 u36 u37 u38 u39 u40 u41 u42 u43 u44 u45 u46 u47 u48 u49 u50 u51 u52 u53 u54 u55 u56 u57 u58 u59 u60 u61 u62 u63 u64 u65 u66 u67 u68 u69 u70 u71 u72 u73 u74 u75 u76 u77 u78 u79 u80 u81 u82 u83 u84 u85 u86 u87 u88 u89 u90 u91 u92 u93 u94 u95 u96 u97 u98 u99 u100 u101 u102 u103 u104 u105 u106 : Value) :
    Code.wp Try.prog (rest29 18) (bodyPostD Try.prog Try.f29 (PPost b o w)) ⟨#[.slice A n c, .bool o, undef, undef, .pointer (some ⟨C, 0, none⟩), .pointer (some ⟨E, 0, none⟩), .pointer (some ⟨R, 0, none⟩), .int .i64 four, u8, .int .i64 N, v10, .int .i64 sc, v12, .int .i64 ss, u14, u15, u16, u17, u18, u19, u20, u21, u22, u23, u24, u25, u26, u27, u28, u29, u30, u31, u32, u33, u34, u35, u36, u37, u38, u39, u40, u41, u42, u43, u44, u45, u46, u47, u48, u49, u50, u51, u52, u53, u54, u55, u56, u57, u58, u59, u60, u61, u62, u63, u64, u65, u66, u67, u68, u69, u70, u71, u72, u73, u74, u75, u76, u77, u78, u79, u80, u81, u82, u83, u84, u85, u86, u87, u88, u89, u90, u91, u92, u93, u94, u95, u96, u97, u98, u99, u100, u101, u102, u103, u104, u105, u106, undef, undef, undef, undef, undef, undef, undef, undef, undef, undef, undef, undef, undef, undef, undef, undef, undef, undef, undef, undef, undef, undef, undef, undef, undef, undef, undef, undef, undef, undef, undef, undef, undef, undef, undef, undef, undef, undef, undef, undef, undef, undef, undef, undef, undef, undef, undef, undef, undef, undef, undef, undef, undef, undef, undef, undef, undef, undef, undef, undef, undef, undef, undef, undef, undef, undef, undef, undef, undef, undef, undef, undef, undef], [{ target := .fn (.func 51) #[.pointer (some ⟨C, 0, none⟩), .pointer (some ⟨E, 0, none⟩)], args := #[] }]⟩ x := by
  have hmx : n ≤ 140737488351232 := by have := hb.1; unfold reach at *; omega
  have HBB := Lib.hid hb; clear hb
  have HY := Lib.hid hy; clear hy
  have HN := Lib.hid hn; clear hn
  obtain ⟨P0, hP0⟩ : ∃ x, x = parse b o := ⟨_, rfl⟩
  have HPQ : Hid (parse b o = P0) := Lib.hid hP0.symm
  have hp0 := hP0.trans hp
  unfold parseEnd at hp0
  rw [hsc, hss] at hp0
  have HP0 := Lib.hid hp0
  have HS0 := Lib.hid hs
  clear hs hp hP0 hp0
  have H10 := Lib.hid h10; clear h10
  have H12 := Lib.hid h12; clear h12
  have HNN := Lib.hid hN; clear hN
  have HP1 := Lib.hid hp1; clear hp1
  have HP2 := Lib.hid hp2; clear hp2
  have sc0 : 0 ≤ sc := by have := sum_nonneg codes HP1.out; omega
  have ss0 : 0 ≤ ss := by have := sum_nonneg subs HP2.out; omega
  have H4 := Lib.hid h4; clear h4
  have f0 : 0 ≤ four := by have := H4.out; omega
  have f1 : four ≤ 4096 := by have := H4.out; omega
  have HSC := Lib.hid hsc; clear hsc
  have HSS := Lib.hid hss; clear hss
  conv => arg 2; whnf
  go_wp2_with fail
  by_cases c1 : b.length < a + 2
  · refine (next_cut R A n c ((a : Nat) : Int) 2 x HS0.out.rd (by omega) (by omega) (by have := HN.out; omega) (by omega) (by omega) (by have := HN.out; omega)).mono ?_
    rintro e w2 ⟨rfl, rfl⟩
    exact HS0.out.bad (grown_refl _ _) (HPQ.out.trans (HP0.out.trans ((readB_cut c1).trans (by rw [HN.out])))) rfl rfl
  obtain ⟨size, hsize⟩ : ∃ x, x = num b a 2 := ⟨_, rfl⟩
  have bsize := num_bd HY.out a 2
  rw [← hsize] at bsize
  have hr1 := next_ok w R A n c ((a : Nat) : Int) 2 b x HBB.out HY.out HN.out HS0.out.below HS0.out.r HS0.out.rd (by omega) (by omega) (by omega) (by have := HN.out; omega)
  rw [Int.toNat_natCast, show (2 : Int).toNat = 2 from rfl, ← hsize] at hr1
  have hp1 := HP0.out.trans (readB_yes c1)
  rw [← hsize] at hp1
  have HPR := Lib.hid hp1
  have Hsize := Lib.hid hsize
  clear hp1 hsize
  refine hr1.mono ?_
  clear hr1
  rintro e x1 ⟨rfl, hrd, hg⟩
  have HS1 := Lib.hid (HS0.out.next hg hrd)
  have HG1 := Lib.hid hg
  clear HS0 HP0 hrd hg
  have sz0 : 0 ≤ size := bsize.1
  have sz1 : size < 65536 := bsize.2
  have k4 := HS1.out.cc.c4
  have kf := HS1.out.cc.free 4
  have H101 := Lib.hid (H10.out.grown HG1.out (Nat.le_refl _))
  have H121 := Lib.hid (H12.out.grown HG1.out (Nat.le_refl _))
  clear bsize H10 H12 HG1
  go_upto_region 23 with (fail)
  have HS2 := Lib.hid (HS1.out.put (HS1.out.cc.set4 (.int .i64 size)))
  have hgs := grown_setCell x1 C 4 (.int .i64 size)
  have H102 := Lib.hid (H101.out.grown hgs (by omega))
  have H122 := Lib.hid (H121.out.grown hgs (by omega))
  obtain ⟨y1, hy1⟩ : ∃ y1, y1 = x1.setCell ⟨C, 4, none⟩ (.int .i64 size) := ⟨_, rfl⟩
  rw [← hy1] at HS2 H102 H122 ⊢
  clear hy1 HS1 H101 H121 hgs k4 kf
  obtain ⟨a2, ha2⟩ : ∃ a2 : Nat, a2 = a + 2 := ⟨_, rfl⟩
  have HS3 := Lib.hid (HS2.out.at (show (a : Int) + 2 = (a2 : Int) by omega))
  have hp2 := HPR.out
  rw [← ha2] at hp2
  have HP3 := Lib.hid hp2
  have HA2 := Lib.hid ha2
  have a2n : a2 ≤ n := by have := HN.out; omega
  clear HS2 HPR hp2 ha2
  go_wp2_with fail
  by_cases c4 : b.length < a2 + 1
  · refine (want_cut R A n c ((a2 : Nat) : Int) 0 53 y1 HS3.out.rd (by omega) (by omega) (by have := HN.out; omega) (by have := HN.out; omega)).mono ?_
    rintro e w2 ⟨rfl, rfl⟩
    exact HS3.out.bad (grown_refl _ _) (HPQ.out.trans (HP3.out.trans ((needB_cut c4).trans (by rw [HN.out])))) rfl rfl
  by_cases d4 : num b a2 1 = 0
  case neg =>
    refine (want_no w R A n c ((a2 : Nat) : Int) 0 53 _ b y1 HBB.out HY.out HN.out HS3.out.below HS3.out.r HS3.out.rd (by omega) (by have := HN.out; omega) (by rw [Int.toNat_natCast]) d4).mono ?_
    rintro e w2 ⟨rfl, hg⟩
    exact HS3.out.bad hg (HPQ.out.trans (HP3.out.trans (needB_no c4 d4))) rfl rfl
  refine (want_yes w R A n c ((a2 : Nat) : Int) 0 53 b y1 HBB.out HY.out HN.out HS3.out.below HS3.out.r HS3.out.rd (by omega) (by have := HN.out; omega) (by rw [Int.toNat_natCast]; exact d4)).mono ?_
  rintro e x4 ⟨rfl, hrd, hg⟩
  have HS4 := Lib.hid (HS3.out.next hg hrd)
  have HG4 := Lib.hid hg
  have HP4 := Lib.hid (HP3.out.trans (needB_yes c4 d4))
  clear HS3 HP3 hrd hg d4
  obtain ⟨a3, ha3⟩ : ∃ a3 : Nat, a3 = a2 + 1 := ⟨_, rfl⟩
  have HS5 := Lib.hid (HS4.out.at (show (a2 : Int) + 1 = (a3 : Int) by omega))
  have H103 := Lib.hid (H102.out.grown HG4.out (Nat.le_refl _))
  have H123 := Lib.hid (H122.out.grown HG4.out (Nat.le_refl _))
  have e3 : a + 3 = a3 := by have := HA2.out; omega
  have hp5 := HP4.out
  rw [e3] at hp5
  have HP5 := Lib.hid hp5
  have HA3 := Lib.hid ha3
  have a3n : a3 ≤ n := by have := HN.out; have := HA3.out; omega
  clear HS4 HP4 hp5 e3 ha3 H102 H122
  obtain ⟨s1, hs1⟩ : ∃ s1 : Int, s1 = (a3 : Int) + four := ⟨_, rfl⟩
  obtain ⟨s2, hs2⟩ : ∃ s2 : Int, s2 = s1 + sc := ⟨_, rfl⟩
  obtain ⟨hd, hhd⟩ : ∃ hd : Int, hd = s2 + ss := ⟨_, rfl⟩
  obtain ⟨he, hhe⟩ : ∃ he : Int, he = hd + size := ⟨_, rfl⟩
  have hp6 := HP5.out
  rw [← hs1, ← hs2, ← hhd, ← hhe] at hp6
  have hw1 : IntKind.i64.wrap ((a3 : Int) + four) = s1 := by rw [hs1]; exact IntWalk.i64_in _ (by omega)
  have hw2 : IntKind.i64.wrap (s1 + sc) = s2 := by rw [hs2]; exact IntWalk.i64_in _ (by omega)
  have hw3 : IntKind.i64.wrap (s2 + ss) = hd := by rw [hhd]; exact IntWalk.i64_in _ (by omega)
  have hw4 : IntKind.i64.wrap (hd + size) = he := by rw [hhe]; exact IntWalk.i64_in _ (by omega)
  have HP6 := Lib.hid hp6
  have HHS : Hid (hd = (a3 : Int) + four + sc + ss) := Lib.hid (by omega)
  have HHE := Lib.hid hhe
  clear HP5 hp6 hs1 hs2 hhd hhe
  clear f0 f1 sc0 ss0 hsc2 hss2 sz0 sz1
  have r1 := HS5.out.rd.place
  have k4 := HS5.out.cc.c4
  by_cases t1 : (n : Int) < hd
  · have ut1 : decide ((n : Int) < hd) = true := by simpa using t1
    have NT1 := Lib.hid t1
    clear t1
    go_wp2_with fail
    exact HS5.out.bad (grown_refl _ _) (HPQ.out.trans (HP6.out.trans (by rw [if_pos (Or.inl (show (b.length : Int) < hd by have := HN.out; have := NT1.out; omega)), HN.out]))) rfl rfl
  have ut1 : decide ((n : Int) < hd) = false := by simpa using t1
  have NT1 := Lib.hid t1
  clear t1
  have fin : ∀ (o' : Bool), o' = o → (o' = true ∨ ¬ (n : Int) < he) → P0 = askB (decide ((b.length : Int) ≤ he)) 58 he (takeB (tysR b (N : Int).toNat true a3) fun ts => .ok ⟨ts, cutL b codes (a3 + 4 * (N : Int).toNat), cutL b subs (a3 + 4 * (N : Int).toNat + sc.toNat), b.drop (a3 + 4 * (N : Int).toNat + sc.toNat + ss.toNat), size⟩) := by
    intro o' ho h
    refine HP6.out.trans ?_
    rw [if_neg]
    rintro (h1 | ⟨h1, h2⟩)
    · have := HN.out; have := NT1.out; omega
    · rcases h with h | h
      · rw [ho, h1] at h; simp at h
      · have := HN.out; omega
  have FIN := Lib.hid fin
  clear fin
  by_cases t2 : o = false ∧ (n : Int) < he
  · have HPE := Lib.hid (HP6.out.trans (if_pos (Or.inr ⟨t2.1, by have := HN.out; have := t2.2; omega⟩)))
    obtain ⟨rfl, t2⟩ := t2
    have ut2 : decide ((n : Int) < he) = true := by simpa using t2
    have NT2 := Lib.hid t2
    clear t2
    go_wp2_with fail
    exact HS5.out.bad (grown_refl _ _) (HPQ.out.trans (HPE.out.trans (by rw [HN.out]))) rfl rfl
  have hp7 := FIN.out o rfl (by cases o <;> simp_all)
  rw [Int.toNat_natCast] at hp7
  have HP7 := Lib.hid hp7
  clear hp7 FIN HP6
  have T2 := Lib.hid t2
  clear t2
  have rest : ∀ (o' : Bool), o' = o → True := fun _ _ => trivial
  clear rest
  cases o
  · have ut2 : decide ((n : Int) < he) = false := by have := T2.out; simp at this; simp; omega
    go_upto_region 27 with (fail)
    by_cases t3 : (n : Int) ≤ he
    case neg =>
      have ut3 : decide ((n : Int) ≤ he) = false := by simpa using t3
      have NT3 := Lib.hid t3
      clear t3
      go_wp2_with fail
      refine (ask_no _ _ _ _).mono ?_
      rintro e w2 ⟨rfl, rfl⟩
      exact HS5.out.bad (grown_refl _ _) (HPQ.out.trans (HP7.out.trans (askB_no (decide_eq_false (by have := NT3.out; have := HN.out; omega))))) rfl rfl
    have ut3 : decide ((n : Int) ≤ he) = true := by simpa using t3
    have NT3 := Lib.hid t3
    clear t3
    go_wp2_with fail
    refine (ask_yes _ _ _ _).mono ?_
    rintro e w2 ⟨rfl, rfl⟩
    have HP8 := Lib.hid (HP7.out.trans (askB_yes (decide_eq_true (by have := NT3.out; have := HN.out; omega))))
    rename_i K1 h1 K2 h2
    refine h2 _ _ (show K1 _ _ from h1 _ _ ?_)
    clear h1 h2
    exact st28 A n c _ b w HBB.out HY.out HN.out hnc C E R N a3 size codes subs v10 v12 _ HS5.out hCR hER H103.out H123.out HNN.out hN2 (by have := HA3.out; omega) hM HP1.out HP2.out (by have := HHS.out; have := H4.out; have := NT1.out; have := HSC.out; have := HSS.out; omega) (by rw [HSC.out, HSS.out]; exact HPQ.out.trans HP8.out) _ _ _ _ _ _ _ _ _ _ _ _ _ _ _ _ _ _ _ _ _ _ _ _ _ _ _ _ _ _ _ _ _ _ _ _ _ _ _ _ _ _ _ _ _ _ _ _ _ _ _ _ _ _ _ _ _ _ _ _ _ _ _ _ _ _ _ _ _ _ _ _ _ _ _ _ _ _ _ _ _ _ _ _ _ _ _ _ _ _ _ _ _ _ _ _ _ _ _ _ _ _ _ _ _ _ _ _ _ _ _ _ _ _ _ _ _ _ _ _ _ _ _ _ _ _ _ _ _ _ _ _ _ _ _ _ _ _ _ _ _ _ _ _ _ _ _ _ _
  · go_upto_region 27 with (fail)
    by_cases t3 : (n : Int) ≤ he
    case neg =>
      have ut3 : decide ((n : Int) ≤ he) = false := by simpa using t3
      have NT3 := Lib.hid t3
      clear t3
      go_wp2_with fail
      refine (ask_no _ _ _ _).mono ?_
      rintro e w2 ⟨rfl, rfl⟩
      exact HS5.out.bad (grown_refl _ _) (HPQ.out.trans (HP7.out.trans (askB_no (decide_eq_false (by have := NT3.out; have := HN.out; omega))))) rfl rfl
    have ut3 : decide ((n : Int) ≤ he) = true := by simpa using t3
    have NT3 := Lib.hid t3
    clear t3
    go_wp2_with fail
    refine (ask_yes _ _ _ _).mono ?_
    rintro e w2 ⟨rfl, rfl⟩
    have HP8 := Lib.hid (HP7.out.trans (askB_yes (decide_eq_true (by have := NT3.out; have := HN.out; omega))))
    rename_i K1 h1 K2 h2
    refine h2 _ _ (show K1 _ _ from h1 _ _ ?_)
    clear h1 h2
    exact st28 A n c _ b w HBB.out HY.out HN.out hnc C E R N a3 size codes subs v10 v12 _ HS5.out hCR hER H103.out H123.out HNN.out hN2 (by have := HA3.out; omega) hM HP1.out HP2.out (by have := HHS.out; have := H4.out; have := NT1.out; have := HSC.out; have := HSS.out; omega) (by rw [HSC.out, HSS.out]; exact HPQ.out.trans HP8.out) _ _ _ _ _ _ _ _ _ _ _ _ _ _ _ _ _ _ _ _ _ _ _ _ _ _ _ _ _ _ _ _ _ _ _ _ _ _ _ _ _ _ _ _ _ _ _ _ _ _ _ _ _ _ _ _ _ _ _ _ _ _ _ _ _ _ _ _ _ _ _ _ _ _ _ _ _ _ _ _ _ _ _ _ _ _ _ _ _ _ _ _ _ _ _ _ _ _ _ _ _ _ _ _ _ _ _ _ _ _ _ _ _ _ _ _ _ _ _ _ _ _ _ _ _ _ _ _ _ _ _ _ _ _ _ _ _ _ _ _ _ _ _ _ _ _ _ _ _

end Go.Proofs.Ytkbboepopcebaaa
