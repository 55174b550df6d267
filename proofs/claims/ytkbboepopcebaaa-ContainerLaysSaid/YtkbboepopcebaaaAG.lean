/- Parse from the sizes on. -/
import Derived.Test.YtkbboepopcebaaaAF
namespace Go.Proofs.Ytkbboepopcebaaa
open Go.RowKit

theorem takeB_err {α β : Type} {x : Except Bad α} {e : Bad} {k : α → Except Bad β} (h : x = .error e) : takeB x k = .error e := by rw [h]; rfl
theorem takeB_ok {α β : Type} {x : Except Bad α} {v : α} {k : α → Except Bad β} (h : x = .ok v) : takeB x k = k v := by rw [h]; rfl

set_option maxRecDepth 100000 in
set_option maxHeartbeats 8000000 in
theorem st12 (A : Option Addr) (n c : Nat) (o : Bool) (b : List Int) (w : World) (hb : NumsR w .u8 A b) (hy : Byt b) (hn : b.length = n) (hnc : n ≤ c) (C E R N : Nat) (four : Int) (x : World)
    (hs : PSx w x C E R A n c 9 (.slice none 0 0) (.slice none 0 0) (.slice none 0 0) (.slice none 0 0) (.int .i64 0)) (hCR : C < R) (hER : E < R) (hN2 : N ≤ 1024) (hn9 : 9 ≤ n)
    (h4 : 4 * (N : Int) = four)
    (hp : parse b o = takeB (szs b 2 N 9) fun codes =>
      readB b (9 + 2 * N) 1 fun kind =>
      askB (decide (kind = 3 ∨ kind = 255)) 53 (9 + 2 * N : Nat) <|
      if kind = 3 then
        readB b (10 + 2 * N) 2 fun m =>
        askB (decide (0 < m ∧ m ≤ 256)) 57 (10 + 2 * N : Nat) <|
        takeB (szs b 4 m.toNat (12 + 2 * N)) fun subs =>
        needB b (12 + 2 * N + 4 * m.toNat) 255 53 <|
        parseEnd b o four N codes subs (13 + 2 * N + 4 * m.toNat)
      else parseEnd b o four N codes [] (10 + 2 * N))
    (u8 u10 u11 u12 u13 u14 u15 u16 u17 u18 u19 u20 u21 u22 u23 u24 u25 u26 u27 u28 u29 u30 u31 u32 u33 u34 u35 u36 u37 u38 u39 u40 u41 u42 u43 u44 u45 u46 u47 u48 u49 u50 u51 u52 u53 u54 u55 u56 u57 u58 u59 u60 u61 u62 : Value) :
    Code.wp Try.prog (rest29 12) (bodyPostD Try.prog Try.f29 (PPost b o w)) ⟨#[.slice A n c, .bool o, undef, undef, .pointer (some ⟨C, 0, none⟩), .pointer (some ⟨E, 0, none⟩), .pointer (some ⟨R, 0, none⟩), .int .i64 four, u8, .int .i64 N, u10, u11, u12, u13, u14, u15, u16, u17, u18, u19, u20, u21, u22, u23, u24, u25, u26, u27, u28, u29, u30, u31, u32, u33, u34, u35, u36, u37, u38, u39, u40, u41, u42, u43, u44, u45, u46, u47, u48, u49, u50, u51, u52, u53, u54, u55, u56, u57, u58, u59, u60, u61, u62, undef, undef, undef, undef, undef, undef, undef, undef, undef, undef, undef, undef, undef, undef, undef, undef, undef, undef, undef, undef, undef, undef, undef, undef, undef, undef, undef, undef, undef, undef, undef, undef, undef, undef, undef, undef, undef, undef, undef, undef, undef, undef, undef, undef, undef, undef, undef, undef, undef, undef, undef, undef, undef, undef, undef, undef, undef, undef, undef, undef, undef, undef, undef, undef, undef, undef, undef, undef, undef, undef, undef, undef, undef, undef, undef, undef, undef, undef, undef, undef, undef, undef, undef, undef, undef, undef, undef, undef, undef, undef, undef, undef, undef, undef, undef, undef, undef, undef, undef, undef, undef, undef, undef, undef, undef, undef, undef, undef, undef, undef, undef, undef, undef, undef, undef, undef, undef], [{ target := .fn (.func 51) #[.pointer (some ⟨C, 0, none⟩), .pointer (some ⟨E, 0, none⟩)], args := #[] }]⟩ x := by
  have hmx : n ≤ 140737488351232 := by have := hb.1; unfold reach at *; omega
  have HBB := Lib.hid hb; clear hb
  have HY := Lib.hid hy; clear hy
  have HN := Lib.hid hn; clear hn
  obtain ⟨P0, hP0⟩ : ∃ x, x = parse b o := ⟨_, rfl⟩
  have HPQ : Hid (parse b o = P0) := Lib.hid hP0.symm
  have HP0 := Lib.hid (hP0.trans hp)
  have HS0 := Lib.hid hs
  have H4 := Lib.hid h4
  clear hs hp hP0 h4
  conv => arg 2; whnf
  go_wp2_with fail
  refine (sizes_any w R A n c N 9 2 b x HBB.out HY.out HN.out HS0.out.below HS0.out.r HS0.out.rd (by omega) (by omega) (by omega) (by omega)).mono ?_
  rintro e y1 ⟨hg, hpost⟩
  rw [show (2 : Int).toNat = 2 from rfl] at hpost
  rcases hsz : szs b 2 N 9 with ⟨e1, e2⟩ | codes
  · rw [hsz] at hpost
    obtain rfl := hpost
    exact HS0.out.bad hg (HPQ.out.trans (HP0.out.trans (takeB_err hsz))) rfl rfl
  rw [hsz] at hpost
  obtain ⟨v10, rfl, ho, hrd⟩ := hpost
  have HSR : Hid (R < x.heap.size) := Lib.hid (World.block_lt_of_cell? x _ HS0.out.rd.place)
  have H10 : Hid (Lst y1 R v10 codes) := Lib.hid ⟨_, HSR.out, ho⟩
  obtain ⟨p1, hp1⟩ : ∃ p1 : Nat, p1 = 9 + 2 * N := ⟨_, rfl⟩
  have HS1 := Lib.hid ((HS0.out.next hg hrd).at (show ((9 : Nat) : Int) + N * 2 = (p1 : Int) by omega))
  have hpx := HP0.out.trans (takeB_ok hsz)
  rw [← hp1, show 10 + 2 * N = p1 + 1 by omega, show 12 + 2 * N = p1 + 3 by omega, show 13 + 2 * N = p1 + 4 by omega] at hpx
  have HP1 := Lib.hid hpx
  have HCL := Lib.hid (szs_len hsz)
  have HCP := Lib.hid (szs_pos hsz)
  have hcs := szs_sum HY.out hsz
  have p1n : p1 ≤ n := by have := szs_ge hsz (by have := HN.out; omega); have := HN.out; omega
  obtain ⟨sc, hsc⟩ : ∃ sc, codes.sum = sc := ⟨_, rfl⟩
  rw [hsc] at hcs ⊢
  have hsc2 : sc ≤ 67108864 := by
    have h1 : ((N : Int) * 256 ^ 2) = N * 65536 := rfl
    omega
  have HSC := Lib.hid hsc
  have HPP1 := Lib.hid hp1
  clear HS0 HP0 hg hrd ho hsz hpx hcs hsc hp1 HSR
  go_wp2_with fail
  by_cases c2 : b.length < p1 + 1
  · refine (next_cut R A n c ((p1 : Nat) : Int) 1 y1 HS1.out.rd (by omega) (by omega) (by have := HN.out; omega) (by omega) (by omega) (by have := HN.out; omega)).mono ?_
    rintro e w2 ⟨rfl, rfl⟩
    exact HS1.out.bad (grown_refl _ _) (HPQ.out.trans (HP1.out.trans ((readB_cut c2).trans (by rw [HN.out])))) rfl rfl
  obtain ⟨kind, hkind⟩ : ∃ x, x = num b p1 1 := ⟨_, rfl⟩
  have bkind := num_bd HY.out p1 1
  rw [← hkind] at bkind
  have hr2 := next_ok w R A n c ((p1 : Nat) : Int) 1 b y1 HBB.out HY.out HN.out HS1.out.below HS1.out.r HS1.out.rd (by omega) (by omega) (by omega) (by have := HN.out; omega)
  rw [Int.toNat_natCast, show (1 : Int).toNat = 1 from rfl, ← hkind] at hr2
  have hp2 := HP1.out.trans (readB_yes c2)
  rw [← hkind] at hp2
  have HP2 := Lib.hid hp2
  have Hkind := Lib.hid hkind
  clear hp2 hkind
  refine hr2.mono ?_
  clear hr2
  rintro e x2 ⟨rfl, hrd, hg⟩
  have HS2 := Lib.hid (HS1.out.next hg hrd)
  have HG2 := Lib.hid hg
  clear HS1 HP1 hrd hg
  have H102 := Lib.hid (H10.out.grown HG2.out (Nat.le_refl _))
  clear H10 HG2 bkind
  have HS3 := Lib.hid (HS2.out.at (show (p1 : Int) + 1 = ((p1 + 1 : Nat) : Int) by omega))
  have p1n' : p1 + 1 ≤ n := by have := HN.out; omega
  clear HS2
  by_cases k3 : kind = 3
  · subst k3
    have HP3 := Lib.hid ((HP2.out.trans (askB_yes (by simp))).trans (if_pos rfl))
    clear HP2
    go_wp2_with fail
    refine (ask_yes _ _ _ _).mono ?_
    rintro e w2 ⟨rfl, rfl⟩
    rename_i K1 h1 K2 h2
    refine h2 _ _ (show K1 _ _ from h1 _ _ ?_)
    clear h1 h2
    refine wp_seq_k fun K hK => ?_
    have HKK := Lib.hid hK
    clear hK
    go_wp2_with fail
    obtain ⟨p2, hp2⟩ : ∃ p2 : Nat, p2 = p1 + 1 := ⟨_, rfl⟩
    have hpx := HP3.out
    rw [← hp2, show p1 + 3 = p2 + 2 by omega, show p1 + 4 = p2 + 3 by omega] at hpx
    have hsx := HS3.out
    rw [← hp2] at hsx p1n'
    have HS4 := Lib.hid hsx
    have HP4 := Lib.hid hpx
    have HPP2 := Lib.hid hp2
    clear HP3 HS3 hpx hsx hp2
    by_cases c5 : b.length < p2 + 2
    · refine (next_cut R A n c ((p2 : Nat) : Int) 2 x2 HS4.out.rd (by omega) (by omega) (by have := HN.out; omega) (by omega) (by omega) (by have := HN.out; omega)).mono ?_
      rintro e w2 ⟨rfl, rfl⟩
      exact HS4.out.bad (grown_refl _ _) (HPQ.out.trans (HP4.out.trans ((readB_cut c5).trans (by rw [HN.out])))) rfl rfl
    obtain ⟨m, hm⟩ : ∃ x, x = num b p2 2 := ⟨_, rfl⟩
    have bm := num_bd HY.out p2 2
    rw [← hm] at bm
    have hr5 := next_ok w R A n c ((p2 : Nat) : Int) 2 b x2 HBB.out HY.out HN.out HS4.out.below HS4.out.r HS4.out.rd (by omega) (by omega) (by omega) (by have := HN.out; omega)
    rw [Int.toNat_natCast, show (2 : Int).toNat = 2 from rfl, ← hm] at hr5
    have hp5 := HP4.out.trans (readB_yes c5)
    rw [← hm] at hp5
    have HP5 := Lib.hid hp5
    have Hm := Lib.hid hm
    clear hp5 hm
    refine hr5.mono ?_
    clear hr5
    rintro e x5 ⟨rfl, hrd, hg⟩
    have HS5 := Lib.hid (HS4.out.next hg hrd)
    have HG5 := Lib.hid hg
    clear HS4 HP4 hrd hg
    have bm0 := bm.1
    have H103 := Lib.hid (H102.out.grown HG5.out (Nat.le_refl _))
    clear bm H102 HG5
    by_cases q1 : 0 < m
    case neg =>
      have uq1 : decide (0 < m) = false := by simpa using q1
      have Nq1 := Lib.hid q1
      clear q1
      go_wp2_with fail
      refine (ask_no _ _ _ _).mono ?_
      rintro e w2 ⟨rfl, rfl⟩
      exact HS5.out.bad (grown_refl _ _) (HPQ.out.trans (HP5.out.trans (askB_no (decide_eq_false (by have := Nq1.out; omega))))) rfl rfl
    have uq1 : decide (0 < m) = true := by simpa using q1
    have Pq1 := Lib.hid q1
    clear q1
    by_cases q3 : m ≤ 256
    case neg =>
      have uq3 : decide (m ≤ 256) = false := by simpa using q3
      have Nq3 := Lib.hid q3
      clear q3
      go_wp2_with fail
      refine (ask_no _ _ _ _).mono ?_
      rintro e w2 ⟨rfl, rfl⟩
      exact HS5.out.bad (grown_refl _ _) (HPQ.out.trans (HP5.out.trans (askB_no (decide_eq_false (by have := Nq3.out; omega))))) rfl rfl
    have uq3 : decide (m ≤ 256) = true := by simpa using q3
    have Pq3 := Lib.hid q3
    clear q3
    go_wp2_with fail
    refine (ask_yes _ _ _ _).mono ?_
    rintro e w2 ⟨rfl, rfl⟩
    have HP6 := Lib.hid (HP5.out.trans (askB_yes (decide_eq_true (by have := Pq1.out; have := Pq3.out; omega))))
    clear HP5
    obtain ⟨M, hMM⟩ : ∃ M : Nat, m = (M : Int) := ⟨m.toNat, by omega⟩
    subst hMM
    have M256 : M ≤ 256 := by have := Pq3.out; omega
    clear uq1 uq3 bm0
    go_wp2_with fail
    obtain ⟨p3, hp3⟩ : ∃ p3 : Nat, p3 = p2 + 2 := ⟨_, rfl⟩
    have p3n : p3 ≤ n := by have := HN.out; omega
    have hpx := HP6.out
    rw [Int.toNat_natCast, ← hp3] at hpx
    have HP7 := Lib.hid hpx
    have HS7 := Lib.hid (HS5.out.at (show (p2 : Int) + 2 = (p3 : Int) by omega))
    have HPP3 := Lib.hid hp3
    clear HS5 HP6 hpx hp3
    refine (sizes_any w R A n c M p3 4 b x5 HBB.out HY.out HN.out HS7.out.below HS7.out.r HS7.out.rd (by omega) (by omega) p3n (by omega)).mono ?_
    rintro e y3 ⟨hg, hpost⟩
    rw [show (4 : Int).toNat = 4 from rfl] at hpost
    rcases hsz : szs b 4 M p3 with ⟨e1, e2⟩ | subs
    · rw [hsz] at hpost
      obtain rfl := hpost
      exact HS7.out.bad hg (HPQ.out.trans (HP7.out.trans (takeB_err hsz))) rfl rfl
    rw [hsz] at hpost
    obtain ⟨v12, rfl, ho, hrd⟩ := hpost
    have HSR : Hid (R < x5.heap.size) := Lib.hid (World.block_lt_of_cell? x5 _ HS7.out.rd.place)
    have H12 : Hid (Lst y3 R v12 subs) := Lib.hid ⟨_, HSR.out, ho⟩
    have H104 := Lib.hid (H103.out.grown hg (Nat.le_refl _))
    obtain ⟨p4, hp4⟩ : ∃ p4 : Nat, p4 = p3 + 4 * M := ⟨_, rfl⟩
    have HS8 := Lib.hid ((HS7.out.next hg hrd).at (show (p3 : Int) + M * 4 = (p4 : Int) by omega))
    have hpx := HP7.out.trans (takeB_ok hsz)
    rw [← hp4, show p2 + 3 + 4 * M = p4 + 1 by have := HPP3.out; omega] at hpx
    have HP8 := Lib.hid hpx
    have HSL := Lib.hid (szs_len hsz)
    have HSP := Lib.hid (szs_pos hsz)
    have hcs := szs_sum HY.out hsz
    have p4n : p4 ≤ n := by have := szs_ge hsz (by have := HN.out; omega); have := HN.out; omega
    obtain ⟨ss, hss⟩ : ∃ ss, subs.sum = ss := ⟨_, rfl⟩
    rw [hss] at hcs ⊢
    have hss2 : ss ≤ 1099511627776 := by
      have h1 : ((M : Int) * 256 ^ 4) = M * 4294967296 := rfl
      omega
    have HSS := Lib.hid hss
    have HPP4 := Lib.hid hp4
    clear HS7 HP7 hg hrd ho hsz hpx hcs hss hp4 HSR H103
    go_wp2_with fail
    by_cases c9 : b.length < p4 + 1
    · refine (want_cut R A n c ((p4 : Nat) : Int) 255 53 y3 HS8.out.rd (by omega) (by omega) (by have := HN.out; omega) (by have := HN.out; omega)).mono ?_
      rintro e w2 ⟨rfl, rfl⟩
      exact HS8.out.bad (grown_refl _ _) (HPQ.out.trans (HP8.out.trans ((needB_cut c9).trans (by rw [HN.out])))) rfl rfl
    by_cases d9 : num b p4 1 = 255
    case neg =>
      refine (want_no w R A n c ((p4 : Nat) : Int) 255 53 _ b y3 HBB.out HY.out HN.out HS8.out.below HS8.out.r HS8.out.rd (by omega) (by have := HN.out; omega) (by rw [Int.toNat_natCast]) d9).mono ?_
      rintro e w2 ⟨rfl, hg⟩
      exact HS8.out.bad hg (HPQ.out.trans (HP8.out.trans (needB_no c9 d9))) rfl rfl
    refine (want_yes w R A n c ((p4 : Nat) : Int) 255 53 b y3 HBB.out HY.out HN.out HS8.out.below HS8.out.r HS8.out.rd (by omega) (by have := HN.out; omega) (by rw [Int.toNat_natCast]; exact d9)).mono ?_
    rintro e x9 ⟨rfl, hrd, hg⟩
    have HS9 := Lib.hid (HS8.out.next hg hrd)
    have HG9 := Lib.hid hg
    have HP9 := Lib.hid (HP8.out.trans (needB_yes c9 d9))
    clear HS8 HP8 hrd hg d9
    have H105 := Lib.hid (H104.out.grown HG9.out (Nat.le_refl _))
    have H122 := Lib.hid (H12.out.grown HG9.out (Nat.le_refl _))
    have HS10 := Lib.hid (HS9.out.at (show (p4 : Int) + 1 = ((p4 + 1 : Nat) : Int) by omega))
    have p5n : p4 + 1 ≤ n := by have := HN.out; omega
    clear HS9
    go_wp2_with fail
    exact HKK.out _ _ (st22 A n c o b w HBB.out HY.out HN.out hnc C E R N (p4 + 1) four sc ss codes subs v10 v12 x9 HS10.out hCR hER H105.out H122.out HCL.out hN2 (by omega) p5n (by have := HSL.out; omega) HCP.out HSP.out H4.out HSC.out HSS.out (by omega) hss2 (HPQ.out.trans HP9.out) _ _ _ _ _ _ _ _ _ _ _ _ _ _ _ _ _ _ _ _ _ _ _ _ _ _ _ _ _ _ _ _ _ _ _ _ _ _ _ _ _ _ _ _ _ _ _ _ _ _ _ _ _ _ _ _ _ _ _ _ _ _ _ _ _ _ _ _ _ _ _ _ _ _ _ _ _ _ _ _ _ _ _ _ _ _ _ _ _ _ _ _ _ _)
  · have ku3 : ((kind : Int) == 3) = false := by simpa using k3
    have K3 := Lib.hid k3
    clear k3
    by_cases k255 : kind = 255
    case neg =>
      have ku255 : ((kind : Int) == 255) = false := by simpa using k255
      have K255 := Lib.hid k255
      clear k255
      go_wp2_with fail
      refine (ask_no _ _ _ _).mono ?_
      rintro e w2 ⟨rfl, rfl⟩
      exact HS3.out.bad (grown_refl _ _) (HPQ.out.trans (HP2.out.trans (askB_no (decide_eq_false (by have := K3.out; have := K255.out; omega))))) rfl rfl
    subst k255
    have HP3 := Lib.hid ((HP2.out.trans (askB_yes (by simp))).trans (if_neg (by decide)))
    clear HP2
    go_wp2_with fail
    refine (ask_yes _ _ _ _).mono ?_
    rintro e w2 ⟨rfl, rfl⟩
    rename_i K1 h1 K2 h2
    refine h2 _ _ (show K1 _ _ from h1 _ _ ?_)
    clear h1 h2
    refine wp_seq_k fun K hK => ?_
    have HKK := Lib.hid hK
    clear hK
    go_wp2_with fail
    exact HKK.out _ _ (st22 A n c o b w HBB.out HY.out HN.out hnc C E R N (p1 + 1) four sc 0 codes [] v10 (.slice none 0 0) x2 HS3.out hCR hER H102.out (Lst.nil _ _) HCL.out hN2 (by omega) p1n' (by simp) HCP.out (by simp) H4.out HSC.out rfl (by omega) (by omega) (HPQ.out.trans HP3.out) _ _ _ _ _ _ _ _ _ _ _ _ _ _ _ _ _ _ _ _ _ _ _ _ _ _ _ _ _ _ _ _ _ _ _ _ _ _ _ _ _ _ _ _ _ _ _ _ _ _ _ _ _ _ _ _ _ _ _ _ _ _ _ _ _ _ _ _ _ _ _ _ _ _ _ _ _ _ _ _ _ _ _ _ _ _ _ _ _ _ _ _ _ _)
end Go.Proofs.Ytkbboepopcebaaa
