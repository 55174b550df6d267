/- The reference's header, plain: what it comes to; Parse's plain law by it. -/
import Derived.Test.YtkbboepopcebaaaBC
namespace Go.Proofs.Ytkbboepopcebaaa
open Go.RowKit

theorem takeB_needB {α β : Type} {b : List Int} {a : Nat} {v er : Int} {k : Except Bad α} {f : α → Except Bad β} : takeB (needB b a v er k) f = needB b a v er (takeB k f) := by
  unfold needB; split <;> (try split) <;> rfl
theorem takeB_readB {α β : Type} {b : List Int} {a s : Nat} {k : Int → Except Bad α} {f : α → Except Bad β} : takeB (readB b a s k) f = readB b a s fun v => takeB (k v) f := by
  unfold readB; split <;> rfl
theorem takeB_askB {α β : Type} {p : Bool} {er x : Int} {k : Except Bad α} {f : α → Except Bad β} : takeB (askB p er x k) f = askB p er x (takeB k f) := by
  unfold askB; split <;> rfl
theorem takeB_takeB {α β γ : Type} {x : Except Bad α} {g : α → Except Bad β} {f : β → Except Bad γ} : takeB (takeB x g) f = takeB x fun v => takeB (g v) f := by
  cases x <;> rfl
theorem takeB_ite {α β : Type} {p : Prop} [Decidable p] {x y : Except Bad α} {f : α → Except Bad β} : takeB (if p then x else y) f = if p then takeB x f else takeB y f := by
  split <;> rfl
theorem takeB_good {α β : Type} {v : α} {f : α → Except Bad β} : takeB (.ok v) f = f v := rfl
theorem takeB_congr {α β : Type} {x : Except Bad α} {f g : α → Except Bad β} (h : ∀ v, x = .ok v → f v = g v) : takeB x f = takeB x g := by
  cases x with
  | ok v => exact h v rfl
  | error e => rfl
theorem askB_congr {α : Type} {p : Bool} {er x : Int} {k k' : Except Bad α} (h : p = true → k = k') : askB p er x k = askB p er x k' := by
  unfold askB
  split
  · rename_i h1; exact h h1
  · rfl
/-- The header's end. -/
def hEnd (b : List Int) (types : Int) (cl sl : List Int) (a : Nat) : Except Bad HS :=
  readB b a 2 fun size => needB b (a + 2) 0 53 <| .ok ⟨a + 3, types, cl, sl, size⟩
/-- The header, plain. -/
def hdr (b : List Int) : Except Bad HS :=
  needB b 0 239 51 <| needB b 1 0 51 <| needB b 2 1 52 <| needB b 3 1 53 <|
  readB b 4 2 fun four =>
  askB (decide (0 < four ∧ four % 4 = 0 ∧ four ≤ 4096)) 54 4 <|
  needB b 6 2 53 <|
  readB b 7 2 fun n =>
  askB (decide (4 * n = four)) 55 7 <|
  takeB (szs b 2 n.toNat 9) fun codes =>
  readB b (9 + 2 * n.toNat) 1 fun kind =>
  askB (decide (kind = 3 ∨ kind = 255)) 53 (9 + 2 * n.toNat : Nat) <|
  if kind = 3 then
    readB b (10 + 2 * n.toNat) 2 fun m =>
    askB (decide (0 < m ∧ m ≤ 256)) 57 (10 + 2 * n.toNat : Nat) <|
    takeB (szs b 4 m.toNat (12 + 2 * n.toNat)) fun subs =>
    needB b (12 + 2 * n.toNat + 4 * m.toNat) 255 53 <|
    hEnd b four codes subs (13 + 2 * n.toNat + 4 * m.toNat)
  else hEnd b four codes [] (10 + 2 * n.toNat)
/-- What comes behind the header. -/
def ptail (b : List Int) (o : Bool) (h : HS) : Except Bad Cont :=
  if (b.length : Int) < (h.k : Int) + 4 * (h.cl.length : Int) + h.cl.sum + h.sl.sum ∨ (o = false ∧ (b.length : Int) < (h.k : Int) + 4 * (h.cl.length : Int) + h.cl.sum + h.sl.sum + h.size) then .error (50, b.length) else
  askB (decide ((b.length : Int) ≤ (h.k : Int) + 4 * (h.cl.length : Int) + h.cl.sum + h.sl.sum + h.size)) 58 ((h.k : Int) + 4 * (h.cl.length : Int) + h.cl.sum + h.sl.sum + h.size) <|
  takeB (tysR b h.cl.length true h.k) fun ts =>
  .ok ⟨ts, cutL b h.cl (h.k + 4 * h.cl.length), cutL b h.sl (h.k + 4 * h.cl.length + h.cl.sum.toNat), b.drop (h.k + 4 * h.cl.length + h.cl.sum.toNat + h.sl.sum.toNat), h.size⟩
theorem hEnd_tail (b : List Int) (o : Bool) (four n : Int) (cl sl : List Int) (a : Nat) (h1 : 4 * n = four) (h2 : cl.length = n.toNat) (h3 : 0 ≤ n) : parseEnd b o four n cl sl a = takeB (hEnd b four cl sl a) (ptail b o) := by
  unfold parseEnd hEnd
  rw [takeB_readB]
  congr 1
  funext size
  rw [takeB_needB, takeB_good]
  unfold ptail
  have e : four = 4 * (cl.length : Int) := by omega
  subst e
  rw [h2]
theorem parse_hdr (b : List Int) (o : Bool) : parse b o = takeB (hdr b) (ptail b o) := by
  unfold parse hdr
  simp only [takeB_needB, takeB_readB, takeB_askB, takeB_takeB, takeB_ite]
  congr 4
  congr 1
  funext four
  refine askB_congr fun h4 => ?_
  have h4 := of_decide_eq_true h4
  congr 1
  congr 1
  funext n
  refine askB_congr fun hn => ?_
  have hn := of_decide_eq_true hn
  refine takeB_congr fun codes hc => ?_
  have hl := szs_len hc
  congr 1
  funext kind
  refine askB_congr fun _ => ?_
  split
  · congr 1
    funext m
    refine askB_congr fun _ => ?_
    refine takeB_congr fun subs hs => ?_
    congr 1
    exact hEnd_tail b o four n codes subs _ hn hl (by omega)
  · exact hEnd_tail b o four n codes [] _ hn hl (by omega)
end Go.Proofs.Ytkbboepopcebaaa
namespace Go.Proofs.Ytkbboepopcebaaa
open Go.RowKit

def GoesTo (b : List Int) (q : List Fl) (s : HS) (R : Except Bad HS) : Prop := ∃ n, HGo b n q s R
theorem go_done {b : List Int} {s : HS} : GoesTo b [] s (.ok s) := ⟨0, .done s⟩
theorem go_read {b : List Int} {q : List Fl} {f : Fl} {s : HS} {a sz : Nat} {k : Int → Except Bad HS} (ha : s.k = a) (hz : f.1.toNat = sz)
    (h : ∀ v, v = num b a sz → (wrongF f.2 v s.types = 0 ∧ GoesTo b (q ++ hmore f.2 v) (hupd f v s) (k v)) ∨ (¬ wrongF f.2 v s.types = 0 ∧ k v = .error (wrongF f.2 v s.types, a))) : GoesTo b (f :: q) s (readB b a sz k) := by
  subst ha
  subst hz
  unfold readB
  by_cases hc : b.length < s.k + f.1.toNat
  · rw [if_pos hc]
    exact ⟨0, .cut f q s hc⟩
  · rw [if_neg hc]
    rcases h _ rfl with ⟨h1, n, h2⟩ | ⟨h1, h2⟩
    · exact ⟨n + 1, .step n f q s _ _ rfl hc h1 h2⟩
    · rw [h2]
      exact ⟨0, .bad f q s _ rfl hc h1⟩
theorem go_rask {b : List Int} {q : List Fl} {f : Fl} {s : HS} {a sz : Nat} {p : Int → Prop} [∀ v, Decidable (p v)] {er : Int} {k : Int → Except Bad HS} (ha : s.k = a) (hz : f.1.toNat = sz)
    (hw : ∀ v, wrongF f.2 v s.types = if p v then 0 else er) (he : er ≠ 0)
    (h : ∀ v, v = num b a sz → p v → GoesTo b (q ++ hmore f.2 v) (hupd f v s) (k v)) : GoesTo b (f :: q) s (readB b a sz fun v => askB (decide (p v)) er a (k v)) := by
  refine go_read ha hz fun v hv => ?_
  have hwv := hw v
  by_cases hp : p v
  · rw [if_pos hp] at hwv
    refine .inl ⟨hwv, ?_⟩
    unfold askB
    rw [if_pos (decide_eq_true hp)]
    exact h v hv hp
  · rw [if_neg hp] at hwv
    refine .inr ⟨by rw [hwv]; exact he, ?_⟩
    unfold askB
    rw [if_neg (by simp [hp]), hwv]
theorem needB_read {α : Type} {b : List Int} {a : Nat} {x er : Int} {k : Except Bad α} : needB b a x er k = readB b a 1 fun v => askB (decide (v = x)) er a k := by
  unfold needB readB askB
  by_cases h : num b a 1 = x <;> simp [h]
theorem go_need {b : List Int} {q : List Fl} {f : Fl} {s : HS} {a : Nat} {x er : Int} {k : Except Bad HS} (ha : s.k = a) (hz : f.1.toNat = 1)
    (hw : ∀ v, wrongF f.2 v s.types = if v = x then 0 else er) (he : er ≠ 0) (h : GoesTo b (q ++ hmore f.2 x) (hupd f x s) k) : GoesTo b (f :: q) s (needB b a x er k) := by
  rw [needB_read]
  refine go_rask (p := fun v => v = x) ha hz hw he fun v _ hv => ?_
  subst hv
  exact h
theorem szs_read {α : Type} {b : List Int} {s k a : Nat} {F : List Int → Except Bad α} : takeB (szs b s (k + 1) a) F = readB b a s fun v => askB (decide (0 < v)) 56 a (takeB (szs b s k (a + s)) fun l => F (v :: l)) := by
  simp only [szs]
  unfold readB askB
  by_cases h1 : b.length < a + s
  · simp [h1, takeB]
  · by_cases h2 : num b a s ≤ 0
    · have h3 : ¬ 0 < num b a s := by omega
      simp [h1, h2, h3, takeB]
    · have h3 : 0 < num b a s := by omega
      simp only [h1, h2, h3, if_false, decide_true, if_true]
      cases szs b s k (a + s) <;> rfl
theorem go_codes (b : List Int) (q : List Fl) : ∀ (m : Nat) (s : HS) (a : Nat) (F : List Int → Except Bad HS), s.k = a →
    (∀ l, l.length = m → GoesTo b q ⟨s.k + 2 * m, s.types, s.cl ++ l, s.sl, s.size⟩ (F l)) → GoesTo b (List.replicate m (2, 8) ++ q) s (takeB (szs b 2 m a) F)
  | 0, s, a, F, _, h => by simpa [szs, takeB] using h [] rfl
  | m + 1, s, a, F, ha, h => by
    rw [szs_read]
    refine go_rask (f := (2, 8)) (p := fun v => 0 < v) ha rfl (fun v => by simp [wrongF]) (by decide) fun v _ _ => ?_
    have e : hmore ((2, 8) : Fl).2 v = [] := by simp [hmore]
    rw [e, List.append_nil]
    refine go_codes b q m _ (a + 2) _ (by rw [hupd_k, ha]; rfl) fun l hl => ?_
    have := h (v :: l) (by simp [hl])
    have e2 : s.k + 2 * (m + 1) = s.k + 2 + 2 * m := by omega
    simpa [hupd, e2] using this
theorem go_subs (b : List Int) (q : List Fl) : ∀ (m : Nat) (s : HS) (a : Nat) (F : List Int → Except Bad HS), s.k = a →
    (∀ l, l.length = m → GoesTo b q ⟨s.k + 4 * m, s.types, s.cl, s.sl ++ l, s.size⟩ (F l)) → GoesTo b (List.replicate m (4, 11) ++ q) s (takeB (szs b 4 m a) F)
  | 0, s, a, F, _, h => by simpa [szs, takeB] using h [] rfl
  | m + 1, s, a, F, ha, h => by
    rw [szs_read]
    refine go_rask (f := (4, 11)) (p := fun v => 0 < v) ha rfl (fun v => by simp [wrongF]) (by decide) fun v _ _ => ?_
    have e : hmore ((4, 11) : Fl).2 v = [] := by simp [hmore]
    rw [e, List.append_nil]
    refine go_subs b q m _ (a + 4) _ (by rw [hupd_k, ha]; rfl) fun l hl => ?_
    have := h (v :: l) (by simp [hl])
    have e2 : s.k + 4 * (m + 1) = s.k + 4 + 4 * m := by omega
    simpa [hupd, e2] using this
theorem go_end (b : List Int) (s : HS) (a : Nat) (types : Int) (cl sl : List Int) (ha : s.k = a) (ht : s.types = types) (hc : s.cl = cl) (hl : s.sl = sl) : GoesTo b [(2, 13), (1, 14)] s (hEnd b types cl sl a) := by
  subst ha ht hc hl
  unfold hEnd
  refine go_read (f := (2, 13)) rfl rfl fun v _ => .inl ⟨by simp [wrongF], ?_⟩
  refine go_need (f := (1, 14)) rfl rfl (fun v => by simp [wrongF]) (by decide) ?_
  exact go_done
theorem hdr_go (b : List Int) : GoesTo b fields0 hs0 (hdr b) := by
  unfold hdr fields0
  refine go_need (f := (1, 1)) rfl rfl (fun v => by simp [wrongF]) (by decide) ?_
  refine go_need (f := (1, 2)) rfl rfl (fun v => by simp [wrongF]) (by decide) ?_
  refine go_need (f := (1, 3)) rfl rfl (fun v => by simp [wrongF]) (by decide) ?_
  refine go_need (f := (1, 4)) rfl rfl (fun v => by simp [wrongF]) (by decide) ?_
  refine go_rask (f := (2, 5)) (p := fun four => 0 < four ∧ four % 4 = 0 ∧ four ≤ 4096) rfl rfl (fun v => by simp [wrongF]) (by decide) fun four _ _ => ?_
  refine go_need (f := (1, 6)) rfl rfl (fun v => by simp [wrongF]) (by decide) ?_
  refine go_rask (f := (2, 7)) (p := fun n => 4 * n = four) rfl rfl (fun v => rfl) (by decide) fun n _ _ => ?_
  show GoesTo b (List.replicate n.toNat (2, 8) ++ [(1, 9)]) ⟨9, four, [], [], 0⟩ _
  refine go_codes b [(1, 9)] n.toNat _ 9 _ rfl fun codes hcl => ?_
  refine go_rask (f := (1, 9)) (p := fun kind => kind = 3 ∨ kind = 255) (by show 9 + 2 * n.toNat = _; rfl) rfl (fun v => rfl) (by decide) fun kind _ _ => ?_
  show GoesTo b (hmore 9 kind) ⟨9 + 2 * n.toNat + 1, four, [] ++ codes, [], 0⟩ _
  by_cases hk : kind = 3
  · subst hk
    rw [if_pos rfl]
    show GoesTo b [(2, 10)] _ _
    refine go_rask (f := (2, 10)) (p := fun m => 0 < m ∧ m ≤ 256) (by show 9 + 2 * n.toNat + 1 = _; omega) rfl (fun v => rfl) (by decide) fun m _ _ => ?_
    show GoesTo b (List.replicate m.toNat (4, 11) ++ [(1, 12), (2, 13), (1, 14)]) ⟨9 + 2 * n.toNat + 1 + 2, four, [] ++ codes, [], 0⟩ _
    refine go_subs b [(1, 12), (2, 13), (1, 14)] m.toNat _ _ _ (by show 9 + 2 * n.toNat + 1 + 2 = _; omega) fun subs hsl => ?_
    refine go_need (f := (1, 12)) (by show 9 + 2 * n.toNat + 1 + 2 + 4 * m.toNat = _; omega) rfl (fun v => by simp [wrongF]) (by decide) ?_
    refine go_end b _ _ _ _ _ (by show 9 + 2 * n.toNat + 1 + 2 + 4 * m.toNat + 1 = _; omega) rfl rfl rfl
  · rw [if_neg hk]
    have e : hmore 9 kind = [(2, 13), (1, 14)] := by simp [hmore, hk]
    rw [e]
    refine go_end b _ _ _ _ _ (by show 9 + 2 * n.toNat + 1 = _; omega) rfl rfl rfl
end Go.Proofs.Ytkbboepopcebaaa
