/- least, able. -/
import Derived.Test.YtkbboepopcebaaaAI
import Derived.Test.YtkbboepopcebaaaU
import Derived.Test.YtkbboepopcebaaaH
import Derived.Test.YtkbboepopcebaaaR
namespace Go.Proofs.Ytkbboepopcebaaa
open Go.RowKit

def leastC : Cont := ⟨[⟨0, 128, 0⟩], [[0]], [], [], 0⟩
def LPost (w : World) (e : Ending) (w' : World) : Prop := ∃ v, e = .returned v ∧ ContV w' v leastC ∧ Below w.heap.size w w'
/-- A new block of one row reads. -/
theorem row_new (w : World) (va : Array Value) (t : TypeId) : ∀ (j : Nat) (v : Value), va[j]? = some v → (w.alloc (.cells va t)).cell? ⟨w.heap.size, j, none⟩ = some v := fun j v h => box1_at w va t j v h
theorem nums_new (w : World) (k : IntKind) (l : List Int) (t : TypeId) (hr : l.length ≤ reach) (g : Nat) (hg : g = w.heap.size) : NumsV (w.alloc (.cells (nums k l).toArray t)) k (.slice (some ⟨g, 0, none⟩) l.length l.length) l := by
  subst hg
  refine ⟨_, _, rfl, Nat.le_refl _, by simp, hr, fun hn => ⟨_, 0, rfl, fun j hj => ?_⟩⟩
  refine row_new w _ t (0 + j) _ ?_
  simp [nums, List.getD_eq_getElem?_getD, hj]

set_option maxRecDepth 100000 in
set_option maxHeartbeats 2000000 in
theorem least_any (w : World) : Calls Try.prog 35 #[] w (LPost w) := by
  go_enter Try.func35, Try.ntmps35
  go_wp2
  refine bodyPost_ret (v := .agg #[.slice (some ⟨w.heap.size + 1, 0, none⟩) 1 1, .slice (some ⟨w.heap.size + 1 + 1 + 1, 0, none⟩) 1 1, .slice none 0 0, .slice none 0 0, .int .i64 0]) (by simp [results, Try.results35, go_sem]) rfl ⟨_, rfl, ?_, ?_⟩
  · refine ⟨_, _, _, _, rfl, ⟨_, _, rfl, Nat.le_refl _, by simp, by simp [leastC, reach], fun _ => ⟨_, 0, rfl, fun j v hj => ?_⟩⟩, ⟨_, _, rfl, Nat.le_refl _, by simp, by simp [leastC, reach], fun _ => ⟨_, 0, rfl, fun j hj => ?_⟩⟩, ⟨none, 0, rfl, Nat.le_refl _, by simp, by simp [leastC, reach], fun h => absurd h (by simp [leastC])⟩, NumsV.nil _ _⟩
    · refine cell_keep (below_step (below_alloc _ _) (below_alloc _ _)) ?_
      have := row_new (w.alloc (.cells #[.slice (some ⟨w.heap.size + 1, 0, none⟩) 1 1, .slice (some ⟨w.heap.size + 1 + 1 + 1, 0, none⟩) 1 1, .slice none 0 0, .slice none 0 0, .int .i64 0] 28)) #[.int .i64 0, .int .i64 128, .int .i64 0] 69 (0 + j) v (by simpa [leastC, tysOf, tyCells] using hj)
      simpa using this
    · have hj0 : j = 0 := by simp [leastC] at hj; omega
      subst hj0
      refine ⟨.slice (some ⟨w.heap.size + 1 + 1, 0, none⟩) 1 1, ?_, ?_⟩
      · have := row_new (((w.alloc (.cells #[.slice (some ⟨w.heap.size + 1, 0, none⟩) 1 1, .slice (some ⟨w.heap.size + 1 + 1 + 1, 0, none⟩) 1 1, .slice none 0 0, .slice none 0 0, .int .i64 0] 28)).alloc (.cells #[.int .i64 0, .int .i64 128, .int .i64 0] 69)).alloc (.cells #[.int .u8 0] 5)) #[.slice (some ⟨w.heap.size + 1 + 1, 0, none⟩) 1 1] 22 0 _ rfl
        simpa using this
      · refine NumsV.mono ?_ (below_alloc _ _)
        exact nums_new _ .u8 [0] 5 (by simp [reach]) _ (by simp)
  · exact below_step (below_alloc _ _) (below_step (below_alloc _ _) (below_step (below_alloc _ _) (below_alloc _ _)))

def ableB : List Int := [239, 0, 1, 1, 0, 4, 2, 0, 1, 0, 1, 255, 0, 0, 0, 0, 128, 0, 0, 0]
theorem able_parse : parse ableB false = .ok leastC := by rfl
theorem able_check : checkErr leastC = 0 := by decide
theorem able_ser : serR leastC = ableB := by decide
theorem able_byt : Byt ableB := by unfold Byt ableB; decide
theorem PContV.reads {w : World} {B : Nat} {v : Value} {c : Cont} (h : PContV w B v c) (h0 : c.types.length ≤ reach) (h1 : c.codes.length ≤ reach) (h2 : ∀ l ∈ c.codes, l.length ≤ reach) (h3 : c.subs.length ≤ reach) (h4 : ∀ l ∈ c.subs, l.length ≤ reach) (h5 : c.data.length ≤ reach) : ContV w v c := by
  obtain ⟨T, C, S, D, rfl, hT, hC, hS, hD⟩ := h.form
  obtain ⟨A, cc, rfl, k1, k2, k3⟩ := own_cells hT
  exact ⟨_, _, _, _, rfl, ⟨A, cc, rfl, k1, k2, h0, k3⟩, hC.reads h1 h2, hS.reads h3 h4, own_nums hD h5⟩
def TruePost (w : World) (e : Ending) (w' : World) : Prop := e = .returned (.bool true) ∧ Below w.heap.size w w'
set_option maxRecDepth 100000 in
set_option maxHeartbeats 4000000 in
theorem able_any (w : World) : Calls Try.prog 14 #[] w (TruePost w) := by
  go_enter Try.func14, Try.ntmps14
  go_wp2_with fail
  obtain ⟨w1, hw1⟩ : ∃ w1, w1 = w.alloc (.cells #[.int .u8 239, .int .u8 0, .int .u8 1, .int .u8 1, .int .u8 0, .int .u8 4, .int .u8 2, .int .u8 0, .int .u8 1, .int .u8 0, .int .u8 1, .int .u8 255, .int .u8 0, .int .u8 0, .int .u8 0, .int .u8 0, .int .u8 128, .int .u8 0, .int .u8 0, .int .u8 0] 5) := ⟨_, rfl⟩
  have hN1 : NumsV w1 .u8 (.slice (some ⟨w.heap.size, 0, none⟩) 20 20) ableB := by rw [hw1]; exact nums_new w .u8 ableB 5 (by simp [reach, ableB]) _ rfl
  have hB1 : Below w.heap.size w w1 := by rw [hw1]; exact below_alloc _ _
  rw [← hw1]
  have HN1 := Lib.hid hN1
  have HB1 := Lib.hid hB1
  clear hN1 hB1 hw1
  refine (own_any _ _ _ HN1.out).mono ?_
  rintro e w2 ⟨v2, rfl, ho, hb⟩
  have HN2 := Lib.hid (HN1.out.mono hb)
  have HB2 := Lib.hid (below_step HB1.out hb)
  have hn2 := own_nums ho (by simp [reach, ableB])
  obtain ⟨A2, c2, rfl, hc2, _, hr2⟩ := hn2
  have HR2 := Lib.hid hr2
  have HC2 := Lib.hid hc2
  clear HN1 HB1 hb ho hr2 hc2
  go_wp2_with fail
  refine (parse_any A2 _ c2 false ableB w2 HR2.out able_byt rfl HC2.out).mono ?_
  rintro e w3 ⟨hb, hpost⟩
  rw [able_parse] at hpost
  obtain ⟨v3, rfl, hP⟩ := hpost
  have hR := hP.reads (by simp [reach, leastC]) (by simp [reach, leastC]) (by simp [reach, leastC]) (by simp [reach, leastC]) (by simp [reach, leastC]) (by simp [reach, leastC])
  obtain ⟨vt, vc, vs, vd, rfl, ⟨A4, c4, rfl, hh⟩, ⟨A5, c5, rfl, hh2⟩, ⟨A6, c6, rfl, hh3⟩, ⟨A7, c7, rfl, hh4⟩⟩ := hR
  have HN3 := Lib.hid (HN2.out.mono hb)
  have HB3 := Lib.hid (below_step HB2.out hb)
  have HCV : Hid (ContV w3 (.agg #[.slice A4 leastC.types.length c4, .slice A5 leastC.codes.length c5, .slice A6 leastC.subs.length c6, .slice A7 leastC.data.length c7, .int .i64 leastC.size]) leastC) := Lib.hid ⟨_, _, _, _, rfl, ⟨A4, c4, rfl, hh⟩, ⟨A5, c5, rfl, hh2⟩, ⟨A6, c6, rfl, hh3⟩, ⟨A7, c7, rfl, hh4⟩⟩
  clear hh hh2 hh3 hh4 hP hb HN2 HB2 HR2 HC2
  unfold rejV
  obtain ⟨n4, h4⟩ : ∃ n, n = leastC.types.length := ⟨_, rfl⟩
  obtain ⟨n5, h5⟩ : ∃ n, n = leastC.codes.length := ⟨_, rfl⟩
  obtain ⟨n6, h6⟩ : ∃ n, n = leastC.subs.length := ⟨_, rfl⟩
  obtain ⟨n7, h7⟩ : ∃ n, n = leastC.data.length := ⟨_, rfl⟩
  obtain ⟨n8, h8⟩ : ∃ n, n = leastC.size := ⟨_, rfl⟩
  have hcv := HCV.out
  rw [← h4, ← h5, ← h6, ← h7, ← h8] at hcv ⊢
  have HCW := Lib.hid hcv
  clear hcv h4 h5 h6 h7 h8 HCV
  go_upto_region 3 with (fail)
  obtain ⟨W, hW⟩ : ∃ W, W = (w3.alloc (.cells #[.slice A4 n4 c4, .slice A5 n5 c5, .slice A6 n6 c6, .slice A7 n7 c7, .int .i64 n8] 28)).alloc (.cells #[.int .i64 0, .slice none 0 0, .int .i64 0, .int .i64 0] 43) := ⟨_, rfl⟩
  obtain ⟨T, hT⟩ : ∃ T, T = w3.heap.size := ⟨_, rfl⟩
  obtain ⟨E, hE⟩ : ∃ E, E = T + 1 := ⟨_, rfl⟩
  have hbW : Below w3.heap.size w3 W := by rw [hW]; exact below_step (below_alloc _ _) (below_alloc _ _)
  have t0 : W.cell? ⟨T, 0, none⟩ = some (.slice A4 n4 c4) := by rw [hW, hT]; exact cell_keep (below_alloc _ _) (box1_at _ _ _ _ _ rfl)
  have t1 : W.cell? ⟨T, 1, none⟩ = some (.slice A5 n5 c5) := by rw [hW, hT]; exact cell_keep (below_alloc _ _) (box1_at _ _ _ _ _ rfl)
  have t2 : W.cell? ⟨T, 2, none⟩ = some (.slice A6 n6 c6) := by rw [hW, hT]; exact cell_keep (below_alloc _ _) (box1_at _ _ _ _ _ rfl)
  have t3 : W.cell? ⟨T, 3, none⟩ = some (.slice A7 n7 c7) := by rw [hW, hT]; exact cell_keep (below_alloc _ _) (box1_at _ _ _ _ _ rfl)
  have t4 : W.cell? ⟨T, 4, none⟩ = some (.int .i64 n8) := by rw [hW, hT]; exact cell_keep (below_alloc _ _) (box1_at _ _ _ _ _ rfl)
  have e0 : W.cell? ⟨E, 0, none⟩ = some (.int .i64 0) := by
    have := box1_at (w3.alloc (.cells #[.slice A4 n4 c4, .slice A5 n5 c5, .slice A6 n6 c6, .slice A7 n7 c7, .int .i64 n8] 28)) #[.int .i64 0, .slice none 0 0, .int .i64 0, .int .i64 0] 43 0 _ rfl
    rw [hW, hE, hT]; simp at this ⊢
  have hNW := HN3.out.mono hbW
  have hCW := HCW.out.mono hbW
  rw [← hT, ← hE, ← hW]
  have HBW := Lib.hid hbW
  have HNW := Lib.hid hNW
  have HCX := Lib.hid hCW
  have hSS : ∀ w', Below W.heap.size W w' → w'.cell? ⟨T, 0, none⟩ = some (.slice A4 n4 c4) ∧ w'.cell? ⟨T, 1, none⟩ = some (.slice A5 n5 c5) ∧ w'.cell? ⟨T, 2, none⟩ = some (.slice A6 n6 c6) ∧ w'.cell? ⟨T, 3, none⟩ = some (.slice A7 n7 c7) ∧ w'.cell? ⟨T, 4, none⟩ = some (.int .i64 n8) ∧ w'.cell? ⟨E, 0, none⟩ = some (.int .i64 0) :=
    fun w' h => ⟨cell_keep h t0, cell_keep h t1, cell_keep h t2, cell_keep h t3, cell_keep h t4, cell_keep h e0⟩
  have HSS := Lib.hid hSS
  clear hbW hW hT hE hSS hNW hCW HN3 HCW t0 t1 t2 t3 t4 e0
  go_cut [21] (fun v wx => v = .bool false ∧ Below W.heap.size W wx)
  case first =>
    go_region_held3 (fun w' => w'.cell? ⟨T, 0, none⟩ = some (.slice A4 n4 c4) ∧ w'.cell? ⟨T, 1, none⟩ = some (.slice A5 n5 c5) ∧ w'.cell? ⟨T, 2, none⟩ = some (.slice A6 n6 c6) ∧ w'.cell? ⟨T, 3, none⟩ = some (.slice A7 n7 c7) ∧ w'.cell? ⟨T, 4, none⟩ = some (.int .i64 n8) ∧ w'.cell? ⟨E, 0, none⟩ = some (.int .i64 0))
      (first | exact HSS.out _ (Below.refl _ _).drew | exact HSS.out _ HB4.out | exact HSS.out _ HB5.out | go_keep)
      ((first
        | (go_at_call 35; (with_reducible refine (least_any _).mono ?_); rintro e w4 ⟨v4, rfl, hc, hb⟩; have HB4 := Lib.hid (below_step (Below.refl _ _).drew hb); have HC4 := Lib.hid hc; clear hc hb)
        | (go_at_call 20; (with_reducible refine (same_any _ _ leastC leastC _ (HCX.out.mono HB4.out) HC4.out).mono ?_); rintro e w5 ⟨rfl, hb⟩; have HB5 := Lib.hid (below_step HB4.out hb); clear hb)))
    all_goals (go_wp2_with fail; go_meet; exact ⟨by simp, HB5.out⟩)
  case rest =>
    obtain ⟨rfl, hb⟩ := hcut
    have HBc := Lib.hid (below_step HBW.out hb)
    have HBC := Lib.hid (below_trans HB3.out HB3.out.size HBc.out)
    have HNC := Lib.hid (HNW.out.mono hb)
    clear hb HBc HCX HSS HNW HBW HB3
    go_wp2_with fail
    refine (least_any _).mono ?_
    rintro e w4 ⟨v4, rfl, hc, hb⟩
    have HC4 := Lib.hid hc
    have HB4 := Lib.hid (below_step HBC.out hb)
    have HN4 := Lib.hid (HNC.out.mono hb)
    clear hc hb HBC HNC
    go_wp2_with fail
    have hs := ser_any v4 leastC w4 HC4.out
    rw [able_check, able_ser] at hs
    refine hs.mono ?_
    clear hs
    rintro e w5 ⟨v5, rfl, ho, hb⟩
    have HB5 := Lib.hid (below_step HB4.out hb)
    have hn := ho.reads (by simp [ableB, reach])
    obtain ⟨A8, c8, rfl, _, _, hr⟩ := hn
    obtain ⟨A9, c9, hA9, _, _, hr9⟩ := HN4.out.mono hb
    have HR8 := Lib.hid hr
    have HR9 := Lib.hid hr9
    injection hA9 with hA9 _ hc9
    subst hA9
    clear ho hb hr hr9 hc9
    go_wp2_with fail
    refine (sameBytes_any _ _ _ _ ableB ableB _ _ _ rfl (by rfl) HR8.out HR9.out).mono ?_
    rintro e w6 ⟨rfl, k, rfl⟩
    go_wp2
    go_ret
    exact ⟨by simp, below_drewN HB5.out _⟩
end Go.Proofs.Ytkbboepopcebaaa
namespace Go.Proofs.Ytkbboepopcebaaa
open Go.RowKit

/-- What twin hands back: lists of the call's own; the two lists of lists apart. -/
def PC2 (w : World) (B : Nat) (v : Value) (c : Cont) : Prop := ∃ T C S D, v = .agg #[T, C, S, D, .int .i64 c.size] ∧ w.ownsRow B 69 3 T c.types.length (tysOf c.types) ∧ PartsO w B C c.codes ∧ PartsO w B S c.subs ∧ w.ownsRow B 5 1 D c.data.length (nums .u8 c.data) ∧ (C.ownBlock = none ∨ C.ownBlock ≠ S.ownBlock)
theorem PC2.p {w : World} {B : Nat} {v : Value} {c : Cont} (h : PC2 w B v c) : PContV w B v c := by
  obtain ⟨T, C, S, D, e, h1, h2, h3, h4, _⟩ := h
  exact ⟨T, C, S, D, e, h1, h2, h3, h4⟩
theorem PC2.below {w w1 : World} {B : Nat} {v : Value} {c : Cont} (h : PC2 w B v c) (hb : Below w.heap.size w w1) : PC2 w1 B v c := by
  obtain ⟨T, C, S, D, e, h1, h2, h3, h4, h5⟩ := h
  exact ⟨T, C, S, D, e, own_below h1 hb, h2.below hb, h3.below hb, own_below h4 hb, h5⟩
theorem PC2.base {w : World} {B B' : Nat} {v : Value} {c : Cont} (h : PC2 w B v c) (hb : B' ≤ B) : PC2 w B' v c := by
  obtain ⟨T, C, S, D, e, h1, h2, h3, h4, h5⟩ := h
  exact ⟨T, C, S, D, e, own_base h1 hb, h2.base hb, h3.base hb, own_base h4 hb, h5⟩
theorem PartsO.ge {w : World} {B : Nat} {v : Value} {ll : List (List Int)} (h : PartsO w B v ll) (k : Nat) (hk : v.ownBlock = some k) : B ≤ k := by obtain ⟨vs, h⟩ := h; exact own_ge h.own k hk
theorem PartsO.lt {w : World} {B : Nat} {v : Value} {ll : List (List Int)} (h : PartsO w B v ll) (k : Nat) (hk : v.ownBlock = some k) : k < w.heap.size := by obtain ⟨vs, h⟩ := h; exact own_lt h.own k hk
theorem wt_mem (ll : List (List Int)) (l : List Int) (h : l ∈ ll) : l.length ≤ wt ll := by
  induction ll with
  | nil => simp at h
  | cons a r ih =>
    unfold wt at *
    simp only [List.map_cons, List.sum_cons]
    rcases List.mem_cons.1 h with rfl | h
    · omega
    · have := ih h; omega
def Fits (c : Cont) : Prop := c.types.length + c.codes.length + c.subs.length + c.data.length + wt c.codes + wt c.subs ≤ 67108864
theorem Small.fits {c : Cont} (h : Small c) : Fits c := by unfold Small at h; unfold Fits; omega
theorem Fits.few {c : Cont} (h : Fits c) : Few c.codes ∧ Few c.subs := by unfold Fits at h; unfold Few most; omega
theorem PContV.read {w : World} {B : Nat} {v : Value} {c : Cont} (h : PContV w B v c) (hs : Fits c) : ContV w v c := by
  unfold Fits at hs
  refine h.reads (by unfold reach; omega) (by unfold reach; omega) (fun l hl => ?_) (by unfold reach; omega) (fun l hl => ?_) (by unfold reach; omega)
  · have := wt_mem _ _ hl; unfold reach; omega
  · have := wt_mem _ _ hl; unfold reach; omega

/-- append(nil, l...), at a step of a region that draws, of types. -/
theorem step_types {ops : Array Oper} {o : Oper} {a : Act} {Q : Exit → Act → World → Prop} {K : Act → World → Prop} {E : Prop} {W : World} (s x : Operand) (hgd : o.guard = none) (ho : o.op = .call { callee := .builtin .append, args := #[s, x], argTypes := #[25, 25] })
    {src : Value} {ts : List Ty} (hs : a.eval s = .slice none 0 0) (hx : a.eval x = src) (ht : TypesV W src ts) (hn : ts.length ≤ 4294967296)
    (h : ∀ v' w', w'.ownsRow W.heap.size 69 3 v' ts.length (tysOf ts) → Below W.heap.size W w' → K (a.put o.dst v') w') :
    if Region.wanted o (yielded ops a.tmps) = true then Oper.wp Try.prog o a W K Q else E := by
  have hw : Region.wanted o (yielded ops a.tmps) = true := by simp [Region.wanted, hgd]
  rw [if_pos hw]
  obtain ⟨i0, hi, hz0, hz1, hz2⟩ := info_parts infoT
  obtain ⟨A, c, rfl, h1, h2, h3, h4⟩ := ht
  have hnil := World.ownsRow_nil W W.heap.size 69 3
  cases A with
  | none =>
    obtain rfl := h2 rfl
    obtain rfl : ts = [] := List.eq_nil_of_length_eq_zero (by omega)
    have hrun := run_append_owned_none (P := Try.prog) (w := W) W.heap.size 25 o.type 69 i0 3 Try.underlying25 hi (.slice none 0 0) 0 [] hnil
    unfold Oper.wp
    simp [execOp, ho, resolve, invoke, builtin, hs, hx, hrun, Result.andThen]
    exact h _ _ (by simpa [tysOf] using hnil) (Below.refl _ _)
  | some ad =>
    obtain ⟨v', w', hrun, hown, hg, _, _⟩ := run_append_own_at (P := Try.prog) (w := W) W.heap.size 25 o.type 69 i0 (.agg #[.int .i64 0, .int .i64 0, .int .i64 0]) 3 24 Try.underlying25 hi hz0 hz1 hz2 (by decide) (by decide) (.slice none 0 0) 0 [] hnil ad ts.length c (tysOf ts) (tysOf_length ts) h4.src (tysOf_one ts) (by unfold maxLen; omega) (by omega) (Nat.le_refl _)
    unfold Oper.wp
    simp [execOp, ho, resolve, invoke, builtin, hs, hx, hrun, Result.andThen]
    refine h _ _ (by simpa using hown) ((Below.refl _ _).grown hg (Nat.le_refl _) (by simp [Value.ownBlock]))
theorem CC.set0 {w : World} {C : Nat} {v0 v1 v2 v3 v4 : Value} (h : CC w C v0 v1 v2 v3 v4) (v : Value) : CC (w.setCell ⟨C, 0, none⟩ v) C v v1 v2 v3 v4 :=
  ⟨World.cell?_setCell_same _ _ _ h.c0, by rw [World.cell?_setCell_other _ _ _ _ (by simp)]; exact h.c1, by rw [World.cell?_setCell_other _ _ _ _ (by simp)]; exact h.c2, by rw [World.cell?_setCell_other _ _ _ _ (by simp)]; exact h.c3, by rw [World.cell?_setCell_other _ _ _ _ (by simp)]; exact h.c4, fun j => by rw [World.frozen?_setCell]; exact h.free j⟩
def TwPost (c : Cont) (w : World) (e : Ending) (w' : World) : Prop := ∃ v, e = .returned v ∧ PC2 w' w.heap.size v c ∧ Below w.heap.size w w'
set_option maxRecDepth 100000 in
set_option maxHeartbeats 4000000 in
theorem twin_any (v : Value) (c : Cont) (w : World) (h : ContV w v c) (hsm : Fits c) : Calls Try.prog 17 #[v] w (TwPost c w) := by
  obtain ⟨vt, vc, vs, vd, rfl, ⟨A0, c0, rfl, i1, i2, hr0, ht⟩, ⟨A1, c1, rfl, _, _, hc⟩, ⟨A2, c2, rfl, _, _, hs⟩, ⟨A3, c3, rfl, k1, k2, hd⟩⟩ := h
  have ht' : TypesV w (.slice A0 c.types.length c0) c.types := ⟨A0, c0, rfl, i1, i2, hr0, ht⟩
  have hd' : NumsV w .u8 (.slice A3 c.data.length c3) c.data := ⟨A3, c3, rfl, k1, k2, hd⟩
  have few := hsm.few
  have hkc : ∀ W, Below w.heap.size w W → Calls Try.prog 44 #[.slice A1 c.codes.length c1] W fun e w' => ∃ v', e = .returned v' ∧ PartsO w' W.heap.size v' c.codes ∧ Below W.heap.size W w' := fun W hb => ownParts_at A1 c1 _ c.codes W rfl few.1 (hc.mono hb)
  have hks : ∀ W, Below w.heap.size w W → Calls Try.prog 44 #[.slice A2 c.subs.length c2] W fun e w' => ∃ v', e = .returned v' ∧ PartsO w' W.heap.size v' c.subs ∧ Below W.heap.size W w' := fun W hb => ownParts_at A2 c2 _ c.subs W rfl few.2 (hs.mono hb)
  have hkd : ∀ W, Below w.heap.size w W → Calls Try.prog 30 #[.slice A3 c.data.length c3] W fun e w' => ∃ v', e = .returned v' ∧ w'.ownsRow W.heap.size 5 1 v' c.data.length (nums .u8 c.data) ∧ Below W.heap.size W w' := fun W hb => own_any _ c.data W (hd'.mono hb)
  have hkt : ∀ W, Below w.heap.size w W → TypesV W (.slice A0 c.types.length c0) c.types := fun W hb => ht'.mono hb
  have htn : c.types.length ≤ 4294967296 := by unfold Fits at hsm; omega
  obtain ⟨n0, h0⟩ : ∃ n0, n0 = c.types.length := ⟨_, rfl⟩
  obtain ⟨n1, h1⟩ : ∃ n1, n1 = c.codes.length := ⟨_, rfl⟩
  obtain ⟨n2, h2⟩ : ∃ n2, n2 = c.subs.length := ⟨_, rfl⟩
  obtain ⟨n3, h3⟩ : ∃ n3, n3 = c.data.length := ⟨_, rfl⟩
  obtain ⟨sz, hsz⟩ : ∃ sz, sz = c.size := ⟨_, rfl⟩
  rw [← h0] at hkt
  rw [← h1] at hkc
  rw [← h2] at hks
  have HKC := Lib.hid hkc
  have HKS := Lib.hid hks
  have HKD : Hid (∀ W, Below w.heap.size w W → Calls Try.prog 30 #[.slice A3 n3 c3] W fun e w' => ∃ v', e = .returned v' ∧ w'.ownsRow W.heap.size 5 1 v' c.data.length (nums .u8 c.data) ∧ Below W.heap.size W w') := by rw [h3]; exact Lib.hid hkd
  have HKT := Lib.hid hkt
  have HTN := Lib.hid htn
  rw [← h0, ← h1, ← h2, ← h3, ← hsz]
  have HSZ := Lib.hid hsz
  clear hkc hks hkd hkt ht ht' hd hd' hc hs hr0 h0 h1 h2 h3 hsz few hsm i1 i2 k1 k2 htn
  go_enter Try.func17, Try.ntmps17
  go_wp2_with fail
  rename_i K1 h1
  have H1 := Lib.hid h1
  clear h1
  obtain ⟨W, hW⟩ : ∃ W, W = (w.alloc (.cells #[.slice A0 n0 c0, .slice A1 n1 c1, .slice A2 n2 c2, .slice A3 n3 c3, .int .i64 sz] 28)).alloc (.cells #[.slice none 0 0, .slice none 0 0, .slice none 0 0, .slice none 0 0, .int .i64 0] 28) := ⟨_, rfl⟩
  obtain ⟨T, hT⟩ : ∃ T, T = w.heap.size := ⟨_, rfl⟩
  obtain ⟨Z, hZ⟩ : ∃ Z, Z = T + 1 := ⟨_, rfl⟩
  have hbW : Below w.heap.size w W := by rw [hW]; exact below_step (below_alloc _ _) (below_alloc _ _)
  have t0 : W.cell? ⟨T, 0, none⟩ = some (.slice A0 n0 c0) := by rw [hW, hT]; exact cell_keep (below_alloc _ _) (box1_at _ _ _ _ _ rfl)
  have t1 : W.cell? ⟨T, 1, none⟩ = some (.slice A1 n1 c1) := by rw [hW, hT]; exact cell_keep (below_alloc _ _) (box1_at _ _ _ _ _ rfl)
  have t2 : W.cell? ⟨T, 2, none⟩ = some (.slice A2 n2 c2) := by rw [hW, hT]; exact cell_keep (below_alloc _ _) (box1_at _ _ _ _ _ rfl)
  have t3 : W.cell? ⟨T, 3, none⟩ = some (.slice A3 n3 c3) := by rw [hW, hT]; exact cell_keep (below_alloc _ _) (box1_at _ _ _ _ _ rfl)
  have t4 : W.cell? ⟨T, 4, none⟩ = some (.int .i64 sz) := by rw [hW, hT]; exact cell_keep (below_alloc _ _) (box1_at _ _ _ _ _ rfl)
  have z0 : W.cell? ⟨Z, 0, none⟩ = some (.slice none 0 0) := by
    have := box1_at (w.alloc (.cells #[.slice A0 n0 c0, .slice A1 n1 c1, .slice A2 n2 c2, .slice A3 n3 c3, .int .i64 sz] 28)) #[.slice none 0 0, .slice none 0 0, .slice none 0 0, .slice none 0 0, .int .i64 0] 28 0 _ rfl
    rw [hW, hZ, hT]; simp at this ⊢
  have z1 : W.cell? ⟨Z, 1, none⟩ = some (.slice none 0 0) := by
    have := box1_at (w.alloc (.cells #[.slice A0 n0 c0, .slice A1 n1 c1, .slice A2 n2 c2, .slice A3 n3 c3, .int .i64 sz] 28)) #[.slice none 0 0, .slice none 0 0, .slice none 0 0, .slice none 0 0, .int .i64 0] 28 1 _ rfl
    rw [hW, hZ, hT]; simp at this ⊢
  have z2 : W.cell? ⟨Z, 2, none⟩ = some (.slice none 0 0) := by
    have := box1_at (w.alloc (.cells #[.slice A0 n0 c0, .slice A1 n1 c1, .slice A2 n2 c2, .slice A3 n3 c3, .int .i64 sz] 28)) #[.slice none 0 0, .slice none 0 0, .slice none 0 0, .slice none 0 0, .int .i64 0] 28 2 _ rfl
    rw [hW, hZ, hT]; simp at this ⊢
  have z3 : W.cell? ⟨Z, 3, none⟩ = some (.slice none 0 0) := by
    have := box1_at (w.alloc (.cells #[.slice A0 n0 c0, .slice A1 n1 c1, .slice A2 n2 c2, .slice A3 n3 c3, .int .i64 sz] 28)) #[.slice none 0 0, .slice none 0 0, .slice none 0 0, .slice none 0 0, .int .i64 0] 28 3 _ rfl
    rw [hW, hZ, hT]; simp at this ⊢
  have z4 : W.cell? ⟨Z, 4, none⟩ = some (.int .i64 0) := by
    have := box1_at (w.alloc (.cells #[.slice A0 n0 c0, .slice A1 n1 c1, .slice A2 n2 c2, .slice A3 n3 c3, .int .i64 sz] 28)) #[.slice none 0 0, .slice none 0 0, .slice none 0 0, .slice none 0 0, .int .i64 0] 28 4 _ rfl
    rw [hW, hZ, hT]; simp at this ⊢
  have zf : ∀ j, W.frozen? ⟨Z, j, none⟩ = false := by
    intro j
    rw [hW, hZ, hT]; simp
  have hzz : Z < W.heap.size := World.block_lt_of_cell? W _ z0
  have hTZ : w.heap.size ≤ Z := by omega
  rw [← hT, ← hZ, ← hW]
  have HBW := Lib.hid hbW
  have hSS : ∀ w', Below W.heap.size W w' → w'.cell? ⟨T, 0, none⟩ = some (.slice A0 n0 c0) ∧ w'.cell? ⟨T, 1, none⟩ = some (.slice A1 n1 c1) ∧ w'.cell? ⟨T, 2, none⟩ = some (.slice A2 n2 c2) ∧ w'.cell? ⟨T, 3, none⟩ = some (.slice A3 n3 c3) ∧ w'.cell? ⟨T, 4, none⟩ = some (.int .i64 sz) :=
    fun w' h => ⟨cell_keep h t0, cell_keep h t1, cell_keep h t2, cell_keep h t3, cell_keep h t4⟩
  have HSS := Lib.hid hSS
  have hzt : ¬ Z = T := by omega
  have HZZ := Lib.hid hzz
  have HTZ := Lib.hid hTZ
  have zz0 : ∀ w', Below W.heap.size W w' → w'.cell? ⟨Z, 0, none⟩ = some (.slice none 0 0) := fun w' h => cell_keep h z0
  have zz1 : ∀ w', Below W.heap.size W w' → w'.cell? ⟨Z, 1, none⟩ = some (.slice none 0 0) := fun w' h => cell_keep h z1
  have zz2 : ∀ w', Below W.heap.size W w' → w'.cell? ⟨Z, 2, none⟩ = some (.slice none 0 0) := fun w' h => cell_keep h z2
  have zz3 : ∀ w', Below W.heap.size W w' → w'.cell? ⟨Z, 3, none⟩ = some (.slice none 0 0) := fun w' h => cell_keep h z3
  have zz4 : ∀ w', Below W.heap.size W w' → w'.cell? ⟨Z, 4, none⟩ = some (.int .i64 0) := fun w' h => cell_keep h z4
  have zzf : ∀ j w', Below W.heap.size W w' → w'.frozen? ⟨Z, j, none⟩ = false := fun j w' h => frozen_keep h hzz (zf j)
  clear hbW hW hT hZ hSS t0 t1 t2 t3 t4 z0 z1 z2 z3 z4 zf hzz hTZ
  go_region_held3 (fun w' => w'.cell? ⟨T, 0, none⟩ = some (.slice A0 n0 c0) ∧ w'.cell? ⟨T, 1, none⟩ = some (.slice A1 n1 c1) ∧ w'.cell? ⟨T, 2, none⟩ = some (.slice A2 n2 c2) ∧ w'.cell? ⟨T, 3, none⟩ = some (.slice A3 n3 c3) ∧ w'.cell? ⟨T, 4, none⟩ = some (.int .i64 sz))
    (first | exact HSS.out _ (by with_reducible first | exact HBd.out | exact HBt.out | exact HBs.out | exact HBc.out | exact (Below.refl _ _).drew) | go_keep)
    ((first
      | (go_at_call 44; (with_reducible refine (HKC.out _ (below_step HBW.out (by with_reducible first | exact HBd.out | exact HBt.out | exact HBs.out | exact HBc.out | exact (Below.refl _ _).drew))).mono ?_); rintro e wc ⟨vc, rfl, ho, hb⟩; have HBc := Lib.hid (below_step (by with_reducible first | exact HBd.out | exact HBt.out | exact HBs.out | exact HBc.out | exact (Below.refl _ _).drew) hb); have hbc := HBc.out; obtain ⟨Ac, cc, rfl⟩ := ho.shape; have HOc := Lib.hid ho; have HGc := Lib.hid hb; clear ho hb)
      | (go_at_call 44; (with_reducible refine (HKS.out _ (below_step HBW.out (by with_reducible first | exact HBd.out | exact HBt.out | exact HBs.out | exact HBc.out | exact (Below.refl _ _).drew))).mono ?_); rintro e ws ⟨vs, rfl, ho, hb⟩; have HBs := Lib.hid (below_step (by with_reducible first | exact HBd.out | exact HBt.out | exact HBs.out | exact HBc.out | exact (Below.refl _ _).drew) hb); have hbs := HBs.out; obtain ⟨As, cs, rfl⟩ := ho.shape; have HOs := Lib.hid ho; have HGs := Lib.hid hb; clear ho hb)
      | (go_at_call 30; (with_reducible refine (HKD.out _ (below_step HBW.out (by with_reducible first | exact HBd.out | exact HBt.out | exact HBs.out | exact HBc.out | exact (Below.refl _ _).drew))).mono ?_); rintro e wd ⟨vd, rfl, ho, hb⟩; have HBd := Lib.hid (below_step (by with_reducible first | exact HBd.out | exact HBt.out | exact HBs.out | exact HBc.out | exact (Below.refl _ _).drew) hb); have hbd := HBd.out; obtain ⟨Ad, cd, rfl, _⟩ := own_shape ho; have HOd := Lib.hid ho; have HGd := Lib.hid hb; clear ho hb)
      | (refine step_types (.const (.slice none 0 0)) (.tmp 4) rfl rfl rfl rfl (HKT.out _ (below_step HBW.out (by with_reducible first | exact HBd.out | exact HBt.out | exact HBs.out | exact HBc.out | exact (Below.refl _ _).drew))) HTN.out ?_; intro vt wt ho hb; have HBt := Lib.hid (below_step (by with_reducible first | exact HBd.out | exact HBt.out | exact HBs.out | exact HBc.out | exact (Below.refl _ _).drew) hb); have hbt := HBt.out; have HGt := Lib.hid hb; obtain ⟨At, ct, rfl, _⟩ := own_shape ho; have HOt := Lib.hid ho; clear ho hb)))
  obtain ⟨W5, hW5⟩ : ∃ W5, W5 = ((((wd.setCell ⟨Z, 0, none⟩ (.slice At c.types.length ct)).setCell ⟨Z, 1, none⟩ (.slice Ac c.codes.length cc)).setCell ⟨Z, 2, none⟩ (.slice As c.subs.length cs)).setCell ⟨Z, 3, none⟩ (.slice Ad c.data.length cd)).setCell ⟨Z, 4, none⟩ (.int .i64 sz) := ⟨_, rfl⟩
  rw [← hW5]
  have hcc : CC wd Z (.slice none 0 0) (.slice none 0 0) (.slice none 0 0) (.slice none 0 0) (.int .i64 0) := ⟨zz0 _ hbd, zz1 _ hbd, zz2 _ hbd, zz3 _ hbd, zz4 _ hbd, fun j => zzf j _ hbd⟩
  have hcc5 : CC W5 Z (.slice At c.types.length ct) (.slice Ac c.codes.length cc) (.slice As c.subs.length cs) (.slice Ad c.data.length cd) (.int .i64 sz) := by
    rw [hW5]
    exact ((((hcc.set0 _).set1 _).set2 _).set3 _).set4 _
  have hgs : wd.grownBy W5 (some Z) := by
    rw [hW5]
    exact grown_trans (grown_trans (grown_trans (grown_trans (grown_setCell _ _ _ _) (grown_setCell _ _ _ _)) (grown_setCell _ _ _ _)) (grown_setCell _ _ _ _)) (grown_setCell _ _ _ _)
  have hw5 : Below w.heap.size w W5 := (below_step HBW.out hbd).grown hgs (below_step HBW.out hbd).size (by rintro k ⟨⟩; exact HTZ.out)
  have hZt : W.heap.size ≤ W.drew.heap.size := Nat.le_refl _
  have hP : PC2 W5 w.heap.size (.agg #[.slice At c.types.length ct, .slice Ac c.codes.length cc, .slice As c.subs.length cs, .slice Ad c.data.length cd, .int .i64 sz]) c := by
    have z1 := HZZ.out
    have z2 := HBW.out.size
    have z3 := HGt.out.size
    have z4 := HGc.out.size
    have z5 := HGs.out.size
    have e1 : W.drew.heap.size = W.heap.size := rfl
    refine ⟨_, _, _, _, by rw [HSZ.out], ?_, ?_, ?_, ?_, ?_⟩
    · exact own_base (own_other (own_below (own_below (own_below HOt.out HGc.out) HGs.out) HGd.out) hgs (.inr fun e => by have := own_ge HOt.out Z e; omega)) (by omega)
    · exact (((HOc.out.below HGs.out).below HGd.out).other hgs (by omega)).base (by omega)
    · exact ((HOs.out.below HGd.out).other hgs (by omega)).base (by omega)
    · exact own_base (own_other HOd.out hgs (.inr fun e => by have := own_ge HOd.out Z e; omega)) (by omega)
    · cases Ac with
      | none => exact .inl rfl
      | some ad =>
        refine .inr fun e => ?_
        have g1 := HOc.out.lt ad.block rfl
        have g2 := HOs.out.ge ad.block e.symm
        omega
  have r0 := hcc5.c0
  have r1 := hcc5.c1
  have r2 := hcc5.c2
  have r3 := hcc5.c3
  have r4 := hcc5.c4
  have HP := Lib.hid hP
  have HW5 := Lib.hid hw5
  clear hP hw5 hgs hcc hcc5 hW5 hbd hbs hbc hbt zz0 zz1 zz2 zz3 zz4 zzf hZt
  refine H1.out _ _ ?_
  clear H1
  go_step
  refine bodyPost_ret (v := .agg #[.slice At c.types.length ct, .slice Ac c.codes.length cc, .slice As c.subs.length cs, .slice Ad c.data.length cd, .int .i64 sz]) (by simp [results, Try.results17, go_sem, r0, r1, r2, r3, r4]) rfl ⟨_, rfl, HP.out, HW5.out⟩
end Go.Proofs.Ytkbboepopcebaaa
