import Derived.Test.YtcpkcfgipfalaaaGreatBPL
set_option linter.unusedVariables false
set_option linter.unusedSimpArgs false
set_option linter.unnecessarySimpa false
set_option linter.unusedSectionVars false
namespace Go.Rm
open Go Go.Am Go.Proofs Go.Hu Go.Mo
def Tot {α : Type} (f : Nat → Option α) : Prop := ∃ x, Ev f x
theorem Tot.pure {α : Type} (x : α) : Tot (fun _ => some x) := ⟨x, Ev.pure x⟩
theorem Tot.bind {α β : Type} {f : Nat → Option α} {g : Nat → α → Option β} (h : Tot f) (k : ∀ x, Tot fun n => g n x) : Tot (fun n => (f n).bind (g n)) := by
 obtain ⟨x, hx⟩ := h
 obtain ⟨y, hy⟩ := k x
 exact ⟨y, Ev.bind hx hy⟩
theorem Tot.br {α : Type} {b : Bool} {f g : Nat → Option α} (h : Tot f) (k : Tot g) : Tot (fun n => br b (f n) (g n)) := by
 cases b
 ·exact k
 ·exact h
theorem Tot.of_eq {α : Type} {f : Nat → Option α} (k : Nat) (h : Tot fun n => f (n + k)) : Tot f := by
 obtain ⟨x, hx⟩ := h
 exact ⟨x, Ev.of_eq k hx⟩
theorem crossTot (a b c : Pt) : Tot fun n => Z76 n a b c := Tot.of_eq 1 (by simp only [Z76Eq]; exact Tot.pure _)
theorem signTot (a : Int) : Tot fun n => Z109 n a := Tot.of_eq 1 (by
 simp only [Z109Eq]
 exact Tot.br (Tot.pure _) (Tot.br (Tot.pure _) (Tot.pure _)))
theorem betweenTot (a b c : Int) : Tot fun n => Z139 n a b c := Tot.of_eq 1 (by
 simp only [Z139Eq]
 exact Tot.br (Tot.br (Tot.pure _) (Tot.br (Tot.pure _) (Tot.pure _))) (Tot.br (Tot.pure _) (Tot.pure _)))
theorem onTot (a b c : Pt) : Tot fun n => Z108 n a b c := Tot.of_eq 1 (by
 simp only [Z108Eq]
 refine Tot.bind (crossTot _ _ _) fun _ => Tot.br (Tot.bind (betweenTot _ _ _) fun _ => Tot.br (Tot.bind (betweenTot _ _ _) fun _ => Tot.pure _) (Tot.pure _)) (Tot.pure _))
theorem cutTot (a b c d : Pt) : Tot fun n => Z78 n a b c d := Tot.of_eq 1 (by
 simp only [Z78Eq]
 refine Tot.bind (onTot _ _ _) fun _ => Tot.br (Tot.pure _) (Tot.bind (onTot _ _ _) fun _ => Tot.br (Tot.pure _) (Tot.bind (onTot _ _ _) fun _ => Tot.br (Tot.pure _) (Tot.bind (onTot _ _ _) fun _ => Tot.br (Tot.pure _) ?_)))
 refine Tot.bind (crossTot _ _ _) fun _ => Tot.bind (signTot _) fun _ => Tot.bind (crossTot _ _ _) fun _ => Tot.bind (signTot _) fun _ => Tot.bind (crossTot _ _ _) fun _ => Tot.bind (signTot _) fun _ => Tot.bind (crossTot _ _ _) fun _ => Tot.bind (signTot _) fun _ => Tot.br (Tot.pure _) (Tot.pure _))
theorem atTot {p : List Pt} (hp : 0 < p.length) {i : Int} (hi : 0 ≤ i) : Tot fun n => Z77 n p i := Tot.of_eq 1 (by
 have hz : ¬ ((p.length : Nat) : Int) = 0 := by omega
 have e : i.tmod (p.length : Int) = i % (p.length : Int) := Int.tmod_eq_emod_of_nonneg hi
 have h1 : 0 ≤ i % (p.length : Int) := Int.emod_nonneg _ (by omega)
 have h2 : i % (p.length : Int) < (p.length : Int) := Int.emod_lt_of_pos _ (by omega)
 have g : p[(i % (p.length : Int)).toNat]? = some p[(i % (p.length : Int)).toNat] := List.getElem?_eq_getElem (by omega)
 simp only [Z77Eq, br_neg hz, e, br_pos h1, g, Option.bind_some]
 exact Tot.pure _)
theorem mayEv (x : Pt) : Ev (fun n => Z75 n x) (decide ((-439400000 ≤ x.1 ∧ x.1 ≤ 439400000) ∧ (-439400000 ≤ x.2 ∧ x.2 ≤ 439400000))) := by
 refine Ev.of_eq 1 ?_
 simp (disch := omega) only [Z75Eq, w64]
 by_cases h1 : 0 - 439400000 ≤ x.1
 ·by_cases h2 : x.1 ≤ 439400000
  ·by_cases h3 : 0 - 439400000 ≤ x.2
   ·simp only [br_pos h1, br_pos h2, br_pos h3]
    refine (Ev.pure _).congr ?_
    rw [Bool.eq_iff_iff]; simp only [decide_eq_true_eq]; omega
   ·simp only [br_pos h1, br_pos h2, br_neg h3]
    exact (Ev.pure _).congr (by symm; rw [decide_eq_false_iff_not]; omega)
  ·simp only [br_pos h1, br_neg h2]
   exact (Ev.pure _).congr (by symm; rw [decide_eq_false_iff_not]; omega)
 ·simp only [br_neg h1]
  exact (Ev.pure _).congr (by symm; rw [decide_eq_false_iff_not]; omega)
def inB' (x : Pt) : Bool := decide ((-439400000 ≤ x.1 ∧ x.1 ≤ 439400000) ∧ (-439400000 ≤ x.2 ∧ x.2 ≤ 439400000))
theorem rightL5 (p : List Pt) (hl : p.length ≤ 12) : ∀ (r : List Pt) (i : Nat), p.drop i = r → i ≤ p.length →
  Ev (fun n => Z54L5 n ((p, (((p.length : Nat) : Int), (((i : Nat) : Int), ()))), ())) (if (r.all inB') = true then .inl ((p, (((p.length : Nat) : Int), ())), ()) else .inr ((false, ()), ())) := by
 intro r
 induction r with
 | nil =>
  intro i h hi
  have := gdrop_nil h
  refine Ev.of_eq 1 ?_
  simp (disch := omega) only [Z54L5Eq, br_neg]
  exact (Ev.pure _).congr (by simp)
 | cons x r ih =>
  intro i h hi
  obtain ⟨g1, g2, g3⟩ := gdrop h
  refine Ev.of_eq 1 ?_
  simp (disch := omega) only [Z54L5Eq, br_pos, Int.toNat_natCast, g1, Option.bind_some, wr1]
  refine Ev.bind (x := inB' x) (mayEv x) ?_
  rw [List.all_cons]
  cases hx : inB' x with
  | true => simp only [Bool.not_true, br_f, Bool.true_and]; exact ih (i + 1) g2 (by omega)
  | false => simp only [Bool.not_false, br_t, Bool.false_and]; exact (Ev.pure _).congr (by simp)
theorem rightL15 (p : List Pt) (hl : p.length ≤ 12) (hp : 0 < p.length) (i : Nat) (hi : i ≤ 12) : ∀ (k j : Nat), p.length ≤ j + k → j ≤ 20 →
  ∃ y, Ev (fun n => Z54L15 n ((p, (((p.length : Nat) : Int), (((i : Nat) : Int), (((j : Nat) : Int), ())))), ())) y ∧ (y = .inl ((p, (((p.length : Nat) : Int), (((i : Nat) : Int), ()))), ()) ∨ y = .inr ((false, ()), ())) := by
 intro k
 induction k with
 | zero =>
  intro j h hj
  refine ⟨_, Ev.of_eq 1 ?_, .inl rfl⟩
  simp (disch := omega) only [Z54L15Eq, br_neg]
  exact Ev.pure _
 | succ k ih =>
  intro j h hj
  by_cases hlt : j < p.length
  ·obtain ⟨y, e, hy⟩ := ih (j + 1) (by omega) (by omega)
   have e1 : IntKind.i64.wrap (((i : Nat) : Int) + 1) = ((i : Nat) : Int) + 1 := w64 (by omega) (by omega)
   have e2 : IntKind.i64.wrap (((j : Nat) : Int) + 1) = ((j + 1 : Nat) : Int) := wr1 j (by omega)
   obtain ⟨p0, h0⟩ := atTot hp (i := ((i : Nat) : Int)) (by omega)
   obtain ⟨p1, h1⟩ := atTot hp (i := ((i : Nat) : Int) + 1) (by omega)
   obtain ⟨p2, h2⟩ := atTot hp (i := ((j : Nat) : Int)) (by omega)
   obtain ⟨p3, h3⟩ := atTot hp (i := ((j + 1 : Nat) : Int)) (by omega)
   obtain ⟨v, hv⟩ := cutTot p0 p1 p2 p3
   have body : ∃ y, Ev (fun n => (Z77 n p ((i : Nat) : Int)).bind fun a => (Z77 n p (((i : Nat) : Int) + 1)).bind fun b => (Z77 n p ((j : Nat) : Int)).bind fun c => (Z77 n p ((j + 1 : Nat) : Int)).bind fun d => (Z78 n a b c d).bind fun v => br v (some (.inr ((false, ()), ()))) (Z54L15 n ((p, (((p.length : Nat) : Int), (((i : Nat) : Int), (((j + 1 : Nat) : Int), ())))), ()))) y ∧ (y = .inl ((p, (((p.length : Nat) : Int), (((i : Nat) : Int), ()))), ()) ∨ y = .inr ((false, ()), ())) := by
    cases v with
    | true => exact ⟨_, Ev.bind h0 (Ev.bind h1 (Ev.bind h2 (Ev.bind h3 (Ev.bind hv (Ev.pure _))))), .inr rfl⟩
    | false => exact ⟨y, Ev.bind h0 (Ev.bind h1 (Ev.bind h2 (Ev.bind h3 (Ev.bind hv e)))), hy⟩
   obtain ⟨z, ez, hz⟩ := body
   by_cases hi0 : ((i : Nat) : Int) = 0
   ·by_cases hj0 : ((j : Nat) : Int) = ((p.length : Nat) : Int) - 1
    ·refine ⟨y, Ev.of_eq 1 ?_, hy⟩
     simp (disch := omega) only [Z54L15Eq, br_pos, nbr_pos, w64, e2]
     exact e
    ·refine ⟨z, Ev.of_eq 1 ?_, hz⟩
     simp (disch := omega) only [Z54L15Eq, br_pos, nbr_pos, nbr_neg, w64, e1, e2]
     exact ez
   ·refine ⟨z, Ev.of_eq 1 ?_, hz⟩
    simp (disch := omega) only [Z54L15Eq, br_pos, nbr_neg, e1, e2]
    exact ez
  ·refine ⟨_, Ev.of_eq 1 ?_, .inl rfl⟩
   simp (disch := omega) only [Z54L15Eq, br_neg]
   exact Ev.pure _
end Go.Rm
namespace Go.Rm
open Go Go.Am Go.Proofs Go.Hu Go.Mo
theorem rightL10 (p : List Pt) (hl : p.length ≤ 12) (hp : 0 < p.length) : ∀ (k i : Nat), i + k = p.length →
  ∃ y, Ev (fun n => Z54L10 n ((p, (((p.length : Nat) : Int), (((i : Nat) : Int), ()))), ())) y ∧ (y = .inl ((p, ()), ()) ∨ y = .inr ((false, ()), ())) := by
 intro k
 induction k with
 | zero =>
  intro i h
  refine ⟨_, Ev.of_eq 1 ?_, .inl rfl⟩
  simp (disch := omega) only [Z54L10Eq, br_neg]
  exact Ev.pure _
 | succ k ih =>
  intro i h
  obtain ⟨y, e, hy⟩ := ih (i + 1) (by omega)
  have e1 : IntKind.i64.wrap (((i : Nat) : Int) + 1) = ((i + 1 : Nat) : Int) := wr1 i (by omega)
  have e2 : IntKind.i64.wrap (((i : Nat) : Int) + 2) = ((i + 2 : Nat) : Int) := by rw [w64 (by omega) (by omega)]; rfl
  obtain ⟨p0, h0⟩ := atTot hp (i := ((i : Nat) : Int)) (by omega)
  obtain ⟨p1, h1⟩ := atTot hp (i := ((i + 1 : Nat) : Int)) (by omega)
  obtain ⟨p2, h2⟩ := atTot hp (i := ((i + 2 : Nat) : Int)) (by omega)
  obtain ⟨v, hv⟩ := crossTot p0 p1 p2
  obtain ⟨z, ez, hz⟩ := rightL15 p hl hp i (by omega) p.length (i + 2) (by omega) (by omega)
  by_cases hv0 : v = 0
  ·refine ⟨_, Ev.of_eq 1 ?_, .inr rfl⟩
   simp (disch := omega) only [Z54L10Eq, br_pos, e1, e2]
   refine Ev.bind h0 (Ev.bind h1 (Ev.bind h2 (Ev.bind hv ?_)))
   simp only [br_pos hv0]
   exact Ev.pure _
  ·rcases hz with rfl | rfl
   ·refine ⟨y, Ev.of_eq 1 ?_, hy⟩
    simp (disch := omega) only [Z54L10Eq, br_pos, e1, e2]
    refine Ev.bind h0 (Ev.bind h1 (Ev.bind h2 (Ev.bind hv ?_)))
    simp only [br_neg hv0]
    refine Ev.bind ez ?_
    simp only [e1]
    exact e
   ·refine ⟨_, Ev.of_eq 1 ?_, .inr rfl⟩
    simp (disch := omega) only [Z54L10Eq, br_pos, e1, e2]
    refine Ev.bind h0 (Ev.bind h1 (Ev.bind h2 (Ev.bind hv ?_)))
    simp only [br_neg hv0]
    exact Ev.bind ez (Ev.pure _)
theorem areaL3 (p : List Pt) (hl : p.length ≤ 12) (hp : 0 < p.length) : ∀ (k i : Nat) (s : Int), i + k = p.length → Tot fun n => Z79L3 n ((p, (s, (((i : Nat) : Int), ()))), ()) := by
 intro k
 induction k with
 | zero =>
  intro i s h
  refine Tot.of_eq 1 ?_
  simp (disch := omega) only [Z79L3Eq, br_neg]
  exact Tot.pure _
 | succ k ih =>
  intro i s h
  have e1 : IntKind.i64.wrap (((i : Nat) : Int) + 1) = ((i + 1 : Nat) : Int) := wr1 i (by omega)
  refine Tot.of_eq 1 ?_
  simp (disch := omega) only [Z79L3Eq, br_pos, e1]
  exact Tot.bind (atTot hp (by omega)) fun _ => Tot.bind (atTot hp (by omega)) fun _ => ih (i + 1) _ (by omega)
theorem areaTot (p : List Pt) (hl : p.length ≤ 12) (hp : 0 < p.length) : Tot fun n => Z79 n p := Tot.of_eq 1 (by
 simp only [Z79Eq]
 exact Tot.bind (areaL3 p hl hp p.length 0 0 (by omega)) fun _ => Tot.pure _)
def PolyOk (p : List Pt) : Prop := (3 ≤ p.length ∧ p.length ≤ 12) ∧ ∀ x ∈ p, Bb 439400000 x
theorem polyEv (p : List Pt) : ∃ b, Ev (fun n => Z54 n p) b ∧ (b = true → PolyOk p) := by
 by_cases h1 : ((p.length : Nat) : Int) < 3
 ·refine ⟨false, Ev.of_eq 1 ?_, fun e => by cases e⟩
  simp only [Z54Eq, br_pos h1]; exact Ev.pure _
 by_cases h2 : (12 : Int) < ((p.length : Nat) : Int)
 ·refine ⟨false, Ev.of_eq 1 ?_, fun e => by cases e⟩
  simp only [Z54Eq, br_neg h1, br_pos h2]; exact Ev.pure _
 have hl : p.length ≤ 12 := by omega
 have hp : 0 < p.length := by omega
 have h5 := rightL5 p hl p 0 rfl (Nat.zero_le _)
 obtain ⟨z, ez, hz⟩ := rightL10 p hl hp p.length 0 (by omega)
 obtain ⟨v, hv⟩ := areaTot p hl hp
 cases ha : p.all inB' with
 | false =>
  rw [ha] at h5
  simp only [Bool.false_eq_true, if_false] at h5
  refine ⟨false, Ev.of_eq 1 ?_, fun e => by cases e⟩
  simp only [Z54Eq, br_neg h1, br_neg h2]
  exact Ev.bind h5 (Ev.pure _)
 | true =>
  rw [ha] at h5
  simp only [if_true] at h5
  have hok : PolyOk p := ⟨by omega, fun x hx => by
   have := List.all_eq_true.1 ha x hx
   unfold inB' at this
   simpa [Bb] using this⟩
  rcases hz with rfl | rfl
  ·refine ⟨decide (0 < v), Ev.of_eq 1 ?_, fun _ => hok⟩
   simp only [Z54Eq, br_neg h1, br_neg h2]
   refine Ev.bind h5 ?_
   refine Ev.bind ez ?_
   exact Ev.bind hv (Ev.pure _)
  ·refine ⟨false, Ev.of_eq 1 ?_, fun _ => hok⟩
   simp only [Z54Eq, br_neg h1, br_neg h2]
   refine Ev.bind h5 ?_
   refine Ev.bind ez ?_
   exact Ev.pure _
theorem polysL4 (l : List (List Pt)) (hl : l.length ≤ 1000) : ∀ (r : List (List Pt)) (i : Nat), l.drop i = r → i ≤ l.length →
  ∃ y, Ev (fun n => Z39L4 n ((l, (((i : Nat) : Int), ())), ())) y ∧ ((y = .inl ((), ()) ∧ ∀ p ∈ r, PolyOk p) ∨ y = .inr ((false, ()), ())) := by
 intro r
 induction r with
 | nil =>
  intro i h hi
  have := gdrop_nil h
  refine ⟨_, Ev.of_eq 1 ?_, .inl ⟨rfl, fun p hp => by cases hp⟩⟩
  simp (disch := omega) only [Z39L4Eq, br_neg]
  exact Ev.pure _
 | cons p r ih =>
  intro i h hi
  obtain ⟨g1, g2, g3⟩ := gdrop h
  obtain ⟨b, hb, hbt⟩ := polyEv p
  obtain ⟨y, e, hy⟩ := ih (i + 1) g2 (by omega)
  cases b with
  | false =>
   refine ⟨_, Ev.of_eq 1 ?_, .inr rfl⟩
   simp (disch := omega) only [Z39L4Eq, br_pos, Int.toNat_natCast, g1, Option.bind_some]
   exact Ev.bind hb (Ev.pure _)
  | true =>
   refine ⟨y, Ev.of_eq 1 ?_, ?_⟩
   ·simp (disch := omega) only [Z39L4Eq, br_pos, Int.toNat_natCast, g1, Option.bind_some, wr1]
    exact Ev.bind hb e
   ·rcases hy with ⟨h1, h2⟩ | h1
    ·exact .inl ⟨h1, fun q hq => by
      rcases List.mem_cons.1 hq with rfl | hq
      ·exact hbt rfl
      ·exact h2 q hq⟩
    ·exact .inr h1
theorem polysEv (l : List (List Pt)) : ∃ b, Ev (fun n => Z39 n l) b ∧ (b = true → l.length ≤ 16 ∧ ∀ p ∈ l, PolyOk p) := by
 by_cases h1 : (16 : Int) < ((l.length : Nat) : Int)
 ·refine ⟨false, Ev.of_eq 1 ?_, fun e => by cases e⟩
  simp only [Z39Eq, br_pos h1]; exact Ev.pure _
 obtain ⟨y, e, hy⟩ := polysL4 l (by omega) l 0 rfl (Nat.zero_le _)
 rcases hy with ⟨rfl, h2⟩ | rfl
 ·refine ⟨true, Ev.of_eq 1 ?_, fun _ => ⟨by omega, h2⟩⟩
  simp only [Z39Eq, br_neg h1]
  exact Ev.bind e (Ev.pure _)
 ·refine ⟨false, Ev.of_eq 1 ?_, fun e => by cases e⟩
  simp only [Z39Eq, br_neg h1]
  exact Ev.bind e (Ev.pure _)
end Go.Rm
namespace Go.Rm
open Go Go.Am Go.Proofs Go.Hu Go.Mo
theorem letterTot (x : Int) : Tot fun n => Z110 n x := Tot.of_eq 1 (by
 simp only [Z110Eq]
 exact Tot.br (Tot.br (Tot.pure _) (Tot.br (Tot.pure _) (Tot.pure _))) (Tot.br (Tot.pure _) (Tot.pure _)))
theorem byte_get (s : ByteArray) {i : Nat} (h : i < s.size) : ∃ b, s.data.toList[i]? = some b := ⟨_, List.getElem?_eq_getElem (by rw [Array.length_toList]; exact h)⟩
theorem nameL4 (s : ByteArray) (hs : s.size ≤ 12) : ∀ (k i : Nat), s.size ≤ i + k → i ≤ 100 →
  ∃ y, Ev (fun n => Z81L4 n ((s, (((i : Nat) : Int), ())), ())) y ∧ (y = .inl ((), ()) ∨ y = .inr ((false, ()), ())) := by
 intro k
 induction k with
 | zero =>
  intro i h hi
  refine ⟨_, Ev.of_eq 1 ?_, .inl rfl⟩
  simp (disch := omega) only [Z81L4Eq, br_neg]
  exact Ev.pure _
 | succ k ih =>
  intro i h hi
  by_cases hlt : i < s.size
  ·rcases Nat.lt_or_ge i 100 with h100 | h100
   ·obtain ⟨y, e, hy⟩ := ih (i + 1) (by omega) (by omega)
    obtain ⟨b, hb⟩ := byte_get s hlt
    obtain ⟨v, hv⟩ := letterTot (b.toNat : Int)
    cases v with
    | true =>
     refine ⟨y, Ev.of_eq 1 ?_, hy⟩
     simp (disch := omega) only [Z81L4Eq, br_pos, Int.toNat_natCast, hb, Option.bind_some, wr1]
     exact Ev.bind hv e
    | false =>
     by_cases h95 : (b.toNat : Int) = 95
     ·refine ⟨y, Ev.of_eq 1 ?_, hy⟩
      simp (disch := omega) only [Z81L4Eq, br_pos, nbr_pos, Int.toNat_natCast, hb, Option.bind_some, wr1]
      refine Ev.bind hv ?_
      simp only [Bool.not_false, br_t]
      exact e
     ·by_cases h48 : (b.toNat : Int) < 48
      ·refine ⟨_, Ev.of_eq 1 ?_, .inr rfl⟩
       simp (disch := omega) only [Z81L4Eq, br_pos, nbr_neg, Int.toNat_natCast, hb, Option.bind_some, wr1]
       refine Ev.bind hv ?_
       simp only [Bool.not_false, br_t]
       exact Ev.pure _
      ·by_cases h57 : 57 < (b.toNat : Int)
       ·refine ⟨_, Ev.of_eq 1 ?_, .inr rfl⟩
        simp (disch := omega) only [Z81L4Eq, br_pos, br_neg, nbr_neg, Int.toNat_natCast, hb, Option.bind_some, wr1]
        refine Ev.bind hv ?_
        simp only [Bool.not_false, br_t]
        exact Ev.pure _
       ·refine ⟨y, Ev.of_eq 1 ?_, hy⟩
        simp (disch := omega) only [Z81L4Eq, br_pos, br_neg, nbr_neg, Int.toNat_natCast, hb, Option.bind_some, wr1]
        refine Ev.bind hv ?_
        simp only [Bool.not_false, br_t]
        exact e
   ·omega
  ·refine ⟨_, Ev.of_eq 1 ?_, .inl rfl⟩
   simp (disch := omega) only [Z81L4Eq, br_neg]
   exact Ev.pure _
theorem nameTot (s : ByteArray) : Tot fun n => Z81 n s := Tot.of_eq 1 (by
 simp only [Z81Eq]
 by_cases h1 : ((s.size : Nat) : Int) < 1
 ·simp only [br_pos h1]; exact Tot.pure _
 by_cases h2 : (12 : Int) < ((s.size : Nat) : Int)
 ·simp only [br_neg h1, br_pos h2]; exact Tot.pure _
 obtain ⟨b, hb⟩ := byte_get s (i := 0) (by omega)
 have h0 : (0 : Int) ≤ 0 := by omega
 have e0 : (0 : Int).toNat = 0 := rfl
 simp only [br_neg h1, br_neg h2, br_pos h0, e0, hb, Option.bind_some]
 refine Tot.bind (letterTot _) fun v => Tot.br (Tot.pure _) ?_
 obtain ⟨y, e, hy⟩ := nameL4 s (by omega) s.size 1 (by omega) (by omega)
 rcases hy with rfl | rfl
 ·exact ⟨_, Ev.bind e (Ev.pure _)⟩
 ·exact ⟨_, Ev.bind e (Ev.pure _)⟩)
theorem namesL7 (l : List ByteArray) (hl : l.length ≤ 1000) (i : Nat) (hi : i < l.length) : ∀ (k j : Nat), j + k = i →
  ∃ y, Ev (fun n => Z56L7 n ((l, (((i : Nat) : Int), (((j : Nat) : Int), ()))), ())) y ∧ (y = .inl ((l, (((i : Nat) : Int), ())), ()) ∨ y = .inr ((false, ()), ())) := by
 intro k
 induction k with
 | zero =>
  intro j h
  refine ⟨_, Ev.of_eq 1 ?_, .inl rfl⟩
  simp (disch := omega) only [Z56L7Eq, br_neg]
  exact Ev.pure _
 | succ k ih =>
  intro j h
  obtain ⟨y, e, hy⟩ := ih (j + 1) (by omega)
  have g1 : l[j]? = some l[j] := List.getElem?_eq_getElem (by omega)
  have g2 : l[i]? = some l[i] := List.getElem?_eq_getElem hi
  cases hb : ((l[j]).toList == (l[i]).toList) with
  | true =>
   refine ⟨_, Ev.of_eq 1 ?_, .inr rfl⟩
   simp (disch := omega) only [Z56L7Eq, br_pos, Int.toNat_natCast, g1, g2, Option.bind_some, hb, br_t]
   exact Ev.pure _
  | false =>
   refine ⟨y, Ev.of_eq 1 ?_, hy⟩
   simp (disch := omega) only [Z56L7Eq, br_pos, Int.toNat_natCast, g1, g2, Option.bind_some, hb, br_f, wr1]
   exact e
theorem namesL2 (l : List ByteArray) (hl : l.length ≤ 1000) : ∀ (k i : Nat), i + k = l.length →
  ∃ y, Ev (fun n => Z56L2 n ((l, (((i : Nat) : Int), ())), ())) y ∧ (y = .inl ((), ()) ∨ y = .inr ((false, ()), ())) := by
 intro k
 induction k with
 | zero =>
  intro i h
  refine ⟨_, Ev.of_eq 1 ?_, .inl rfl⟩
  simp (disch := omega) only [Z56L2Eq, br_neg]
  exact Ev.pure _
 | succ k ih =>
  intro i h
  obtain ⟨y, e, hy⟩ := ih (i + 1) (by omega)
  have g2 : l[i]? = some l[i] := List.getElem?_eq_getElem (by omega)
  obtain ⟨v, hv⟩ := nameTot l[i]
  obtain ⟨z, ez, hz⟩ := namesL7 l hl i (by omega) i 0 (by omega)
  cases v with
  | false =>
   refine ⟨_, Ev.of_eq 1 ?_, .inr rfl⟩
   simp (disch := omega) only [Z56L2Eq, br_pos, Int.toNat_natCast, g2, Option.bind_some]
   exact Ev.bind hv (Ev.pure _)
  | true =>
   rcases hz with rfl | rfl
   ·refine ⟨y, Ev.of_eq 1 ?_, hy⟩
    simp (disch := omega) only [Z56L2Eq, br_pos, Int.toNat_natCast, g2, Option.bind_some]
    refine Ev.bind hv ?_
    simp only [Bool.not_true, br_f]
    refine Ev.bind ez ?_
    simp (disch := omega) only [wr1]
    exact e
   ·refine ⟨_, Ev.of_eq 1 ?_, .inr rfl⟩
    simp (disch := omega) only [Z56L2Eq, br_pos, Int.toNat_natCast, g2, Option.bind_some]
    refine Ev.bind hv ?_
    simp only [Bool.not_true, br_f]
    exact Ev.bind ez (Ev.pure _)
theorem namesTot (l : List ByteArray) (hl : l.length ≤ 1000) : Tot fun n => Z56 n l := Tot.of_eq 1 (by
 simp only [Z56Eq]
 obtain ⟨y, e, hy⟩ := namesL2 l hl l.length 0 (by omega)
 rcases hy with rfl | rfl
 ·exact ⟨_, Ev.bind e (Ev.pure _)⟩
 ·exact ⟨_, Ev.bind e (Ev.pure _)⟩)
theorem unlikeL7 (l : List Int) (m : Int) (hl : l.length ≤ 1000) (i : Nat) (hi : i < l.length) : ∀ (k j : Nat), j + k = i →
  ∃ y, Ev (fun n => Z43L7 n ((l, (m, (((i : Nat) : Int), (((j : Nat) : Int), ())))), ())) y ∧ (y = .inl ((l, (m, (((i : Nat) : Int), ()))), ()) ∨ y = .inr ((false, ()), ())) := by
 intro k
 induction k with
 | zero =>
  intro j h
  refine ⟨_, Ev.of_eq 1 ?_, .inl rfl⟩
  simp (disch := omega) only [Z43L7Eq, br_neg]
  exact Ev.pure _
 | succ k ih =>
  intro j h
  obtain ⟨y, e, hy⟩ := ih (j + 1) (by omega)
  have g1 : l[j]? = some l[j] := List.getElem?_eq_getElem (by omega)
  have g2 : l[i]? = some l[i] := List.getElem?_eq_getElem hi
  by_cases hb : l[j] = l[i]
  ·refine ⟨_, Ev.of_eq 1 ?_, .inr rfl⟩
   simp (disch := omega) only [Z43L7Eq, br_pos, Int.toNat_natCast, g1, g2, Option.bind_some, br_pos hb]
   exact Ev.pure _
  ·refine ⟨y, Ev.of_eq 1 ?_, hy⟩
   simp (disch := omega) only [Z43L7Eq, br_pos, Int.toNat_natCast, g1, g2, Option.bind_some, br_neg hb, wr1]
   exact e
theorem unlikeL2 (l : List Int) (m : Int) (hl : l.length ≤ 1000) : ∀ (k i : Nat), i + k = l.length →
  ∃ y, Ev (fun n => Z43L2 n ((l, (m, (((i : Nat) : Int), ()))), ())) y ∧ (y = .inl ((), ()) ∨ y = .inr ((false, ()), ())) := by
 intro k
 induction k with
 | zero =>
  intro i h
  refine ⟨_, Ev.of_eq 1 ?_, .inl rfl⟩
  simp (disch := omega) only [Z43L2Eq, br_neg]
  exact Ev.pure _
 | succ k ih =>
  intro i h
  obtain ⟨y, e, hy⟩ := ih (i + 1) (by omega)
  have g2 : l[i]? = some l[i] := List.getElem?_eq_getElem (by omega)
  obtain ⟨z, ez, hz⟩ := unlikeL7 l m hl i (by omega) i 0 (by omega)
  by_cases h1 : l[i] < 0
  ·refine ⟨_, Ev.of_eq 1 ?_, .inr rfl⟩
   simp (disch := omega) only [Z43L2Eq, br_pos, Int.toNat_natCast, g2, Option.bind_some, br_pos h1]
   exact Ev.pure _
  by_cases h2 : m ≤ l[i]
  ·refine ⟨_, Ev.of_eq 1 ?_, .inr rfl⟩
   simp (disch := omega) only [Z43L2Eq, br_pos, Int.toNat_natCast, g2, Option.bind_some, br_neg h1, br_pos h2]
   exact Ev.pure _
  rcases hz with rfl | rfl
  ·refine ⟨y, Ev.of_eq 1 ?_, hy⟩
   simp (disch := omega) only [Z43L2Eq, br_pos, Int.toNat_natCast, g2, Option.bind_some, br_neg h1, br_neg h2]
   refine Ev.bind ez ?_
   simp (disch := omega) only [wr1]
   exact e
  ·refine ⟨_, Ev.of_eq 1 ?_, .inr rfl⟩
   simp (disch := omega) only [Z43L2Eq, br_pos, Int.toNat_natCast, g2, Option.bind_some, br_neg h1, br_neg h2]
   exact Ev.bind ez (Ev.pure _)
theorem unlikeTot (l : List Int) (m : Int) (hl : l.length ≤ 1000) : Tot fun n => Z43 n l m := Tot.of_eq 1 (by
 simp only [Z43Eq]
 obtain ⟨y, e, hy⟩ := unlikeL2 l m hl l.length 0 (by omega)
 rcases hy with rfl | rfl
 ·exact ⟨_, Ev.bind e (Ev.pure _)⟩
 ·exact ⟨_, Ev.bind e (Ev.pure _)⟩)
theorem boundedTot (l : LimT) : Tot fun n => Z38 n l := Tot.of_eq 1 (by
 simp only [Z38Eq]
 exact Tot.br (Tot.br (Tot.br (Tot.br (Tot.br (Tot.pure _) (Tot.pure _)) (Tot.pure _)) (Tot.pure _)) (Tot.pure _)) (Tot.pure _))
theorem areasL3 (c : CellT) (hl : c.2.2.2.2.2.2.2.2.2.1.length ≤ 1000) : ∀ (r : List (List Pt)) (i : Nat) (out : List (List Pt)), c.2.2.2.2.2.2.2.2.2.1.drop i = r → i ≤ c.2.2.2.2.2.2.2.2.2.1.length → out.length ≤ i →
  Ev (fun n => Z40L3 n (((), (out, (((i : Nat) : Int), ()))), ((c, ()), ()))) ((out ++ r, ()), ()) := by
 intro r
 induction r with
 | nil =>
  intro i out h hi ho
  have := gdrop_nil h
  refine Ev.of_eq 1 ?_
  simp (disch := omega) only [Z40L3Eq, br_neg]
  exact (Ev.pure _).congr (by simp)
 | cons p r ih =>
  intro i out h hi ho
  obtain ⟨g1, g2, g3⟩ := gdrop h
  have hcap : (out.length + [p].length) * 24 ≤ 140737488355328 := by simp only [List.length_cons, List.length_nil]; omega
  refine Ev.of_eq 1 ?_
  simp (disch := omega) only [Z40L3Eq, br_pos, Int.toNat_natCast, g1, Option.bind_some, wr1, br_pos hcap]
  refine (ih (i + 1) (out ++ [p]) g2 (by omega) (by simp; omega)).congr ?_
  simp
theorem areasEv (c : CellT) (hl : c.2.2.2.2.2.2.2.2.2.1.length ≤ 1000) : Ev (fun n => Z40 n c) c.2.2.2.2.2.2.2.2.2.1 := by
 refine Ev.of_eq 1 ?_
 simp only [Z40Eq]
 refine Ev.bind (areasL3 c hl c.2.2.2.2.2.2.2.2.2.1 0 [] rfl (Nat.zero_le _) (Nat.le_refl _)) ?_
 exact (Ev.pure _).congr (by simp)
end Go.Rm
namespace Go.Rm
open Go Go.Am Go.Proofs Go.Hu Go.Mo
theorem side2Tot (a b c : Pt) : Tot fun n => Z82 n a b c := Tot.of_eq 2 (by
 simp only [Z82Eq, Z111Eq, Option.bind_some]
 exact Tot.br (Tot.pure _) (Tot.br (Tot.pure _) (Tot.pure _)))
theorem shapeL9 (p : List Pt) (hl : p.length ≤ 12) (i : Nat) (hi : i < p.length) : ∀ (k j : Nat), j + k = p.length →
  ∃ y, Ev (fun n => Z57L9 n ((p, (((i : Nat) : Int), (((j : Nat) : Int), ()))), ())) y ∧ (y = .inl ((p, (((i : Nat) : Int), ())), ()) ∨ y = .inr ((false, ()), ())) := by
 intro k
 induction k with
 | zero =>
  intro j h
  refine ⟨_, Ev.of_eq 1 ?_, .inl rfl⟩
  simp (disch := omega) only [Z57L9Eq, br_neg]
  exact Ev.pure _
 | succ k ih =>
  intro j h
  obtain ⟨y, e, hy⟩ := ih (j + 1) (by omega)
  have g1 := at_get (l := p) (i := i) hi
  have g2 := at_get (l := p) (i := nx p i) (nx_lt (by omega) i)
  have g3 := at_get (l := p) (i := j) (by omega)
  have en := tm_nx p i (by omega)
  obtain ⟨v, hv⟩ := side2Tot (at_ p i) (at_ p (nx p i)) (at_ p j)
  by_cases h0 : v < 0
  ·refine ⟨_, Ev.of_eq 1 ?_, .inr rfl⟩
   simp (disch := omega) only [Z57L9Eq, br_pos, br_neg, Int.toNat_natCast, g1, en, g2, g3, Option.bind_some]
   refine Ev.bind hv ?_
   simp only [br_pos h0]
   exact Ev.pure _
  ·refine ⟨y, Ev.of_eq 1 ?_, hy⟩
   simp (disch := omega) only [Z57L9Eq, br_pos, br_neg, Int.toNat_natCast, g1, en, g2, g3, Option.bind_some]
   refine Ev.bind hv ?_
   simp only [br_neg h0]
   simp (disch := omega) only [wr1]
   exact e
theorem shapeL4 (p : List Pt) (hl : p.length ≤ 12) : ∀ (r : List Pt) (i : Nat), p.drop i = r → i ≤ p.length →
  ∃ y, Ev (fun n => Z57L4 n ((p, (((i : Nat) : Int), ())), ())) y ∧ ((y = .inl ((), ()) ∧ ∀ x ∈ r, Bb 10 x) ∨ y = .inr ((false, ()), ())) := by
 intro r
 induction r with
 | nil =>
  intro i h hi
  have := gdrop_nil h
  refine ⟨_, Ev.of_eq 1 ?_, .inl ⟨rfl, fun x hx => by cases hx⟩⟩
  simp (disch := omega) only [Z57L4Eq, br_neg]
  exact Ev.pure _
 | cons x r ih =>
  intro i h hi
  obtain ⟨g1, g2, g3⟩ := gdrop h
  obtain ⟨y, e, hy⟩ := ih (i + 1) g2 (by omega)
  obtain ⟨z, ez, hz⟩ := shapeL9 p hl i g3 p.length 0 (by omega)
  by_cases h1 : x.1 < -10
  ·refine ⟨_, Ev.of_eq 1 ?_, .inr rfl⟩
   simp (disch := omega) only [Z57L4Eq, br_pos, Int.toNat_natCast, g1, Option.bind_some]
   exact Ev.pure _
  by_cases h2 : 10 < x.1
  ·refine ⟨_, Ev.of_eq 1 ?_, .inr rfl⟩
   simp (disch := omega) only [Z57L4Eq, br_pos, br_neg, Int.toNat_natCast, g1, Option.bind_some]
   exact Ev.pure _
  by_cases h3 : x.2 < -10
  ·refine ⟨_, Ev.of_eq 1 ?_, .inr rfl⟩
   simp (disch := omega) only [Z57L4Eq, br_pos, br_neg, Int.toNat_natCast, g1, Option.bind_some]
   exact Ev.pure _
  by_cases h4 : 10 < x.2
  ·refine ⟨_, Ev.of_eq 1 ?_, .inr rfl⟩
   simp (disch := omega) only [Z57L4Eq, br_pos, br_neg, Int.toNat_natCast, g1, Option.bind_some]
   exact Ev.pure _
  rcases hz with rfl | rfl
  ·refine ⟨y, Ev.of_eq 1 ?_, ?_⟩
   ·simp (disch := omega) only [Z57L4Eq, br_pos, br_neg, Int.toNat_natCast, g1, Option.bind_some]
    refine Ev.bind ez ?_
    simp (disch := omega) only [wr1]
    exact e
   ·rcases hy with ⟨h5, h6⟩ | h5
    ·exact .inl ⟨h5, fun q hq => by
      rcases List.mem_cons.1 hq with rfl | hq
      ·unfold Bb; omega
      ·exact h6 q hq⟩
    ·exact .inr h5
  ·refine ⟨_, Ev.of_eq 1 ?_, .inr rfl⟩
   simp (disch := omega) only [Z57L4Eq, br_pos, br_neg, Int.toNat_natCast, g1, Option.bind_some]
   exact Ev.bind ez (Ev.pure _)
theorem shapeEv (p : List Pt) : ∃ b, Ev (fun n => Z57 n p) b ∧ (b = true → p.length ≤ 4 ∧ ∀ x ∈ p, Bb 10 x) := by
 by_cases h1 : (4 : Int) < ((p.length : Nat) : Int)
 ·refine ⟨false, Ev.of_eq 1 ?_, fun e => by cases e⟩
  simp only [Z57Eq, br_pos h1]; exact Ev.pure _
 obtain ⟨b, hb, -⟩ := polyEv p
 obtain ⟨y, e, hy⟩ := shapeL4 p (by omega) p 0 rfl (Nat.zero_le _)
 cases b with
 | false =>
  refine ⟨false, Ev.of_eq 1 ?_, fun e => by cases e⟩
  simp only [Z57Eq, br_neg h1]
  exact Ev.bind hb (Ev.pure _)
 | true =>
  rcases hy with ⟨rfl, h2⟩ | rfl
  ·refine ⟨true, Ev.of_eq 1 ?_, fun _ => ⟨by omega, h2⟩⟩
   simp only [Z57Eq, br_neg h1]
   refine Ev.bind hb ?_
   simp only [Bool.not_true, br_f]
   exact Ev.bind e (Ev.pure _)
  ·refine ⟨false, Ev.of_eq 1 ?_, fun e => by cases e⟩
   simp only [Z57Eq, br_neg h1]
   refine Ev.bind hb ?_
   simp only [Bool.not_true, br_f]
   exact Ev.bind e (Ev.pure _)
theorem partsL4 (l : List PartT) (m : Int) (hl : l.length ≤ 8) : ∀ (r : List PartT) (i : Nat) (a : List ByteArray) (b : List Int), l.drop i = r → i ≤ l.length → a.length ≤ i → b.length ≤ i →
  ∃ y, Ev (fun n => Z42L4 n ((l, (m, (a, (b, (((i : Nat) : Int), ()))))), ())) y ∧ ((∃ a' b', y = .inl ((l, (m, (a', (b', ())))), ()) ∧ a'.length ≤ 8 ∧ b'.length ≤ 8 ∧ ∀ p ∈ r, p.2.1.length ≤ 4 ∧ ∀ x ∈ p.2.1, Bb 10 x) ∨ y = .inr ((false, ()), ())) := by
 intro r
 induction r with
 | nil =>
  intro i a b h hi ha hb
  have := gdrop_nil h
  refine ⟨_, Ev.of_eq 1 ?_, .inl ⟨a, b, rfl, by omega, by omega, fun p hp => by cases hp⟩⟩
  simp (disch := omega) only [Z42L4Eq, br_neg]
  exact Ev.pure _
 | cons p r ih =>
  intro i a b h hi ha hb
  obtain ⟨g1, g2, g3⟩ := gdrop h
  obtain ⟨v, hv, hvt⟩ := shapeEv p.2.1
  obtain ⟨y, e, hy⟩ := ih (i + 1) (a ++ [p.1]) (b ++ [p.2.2]) g2 (by omega) (by simp; omega) (by simp; omega)
  have c1 : (a.length + [p.1].length) * 16 ≤ 140737488355328 := by simp only [List.length_cons, List.length_nil]; omega
  have c2 : (b.length + [p.2.2].length) * 8 ≤ 140737488355328 := by simp only [List.length_cons, List.length_nil]; omega
  cases v with
  | false =>
   refine ⟨_, Ev.of_eq 1 ?_, .inr rfl⟩
   simp (disch := omega) only [Z42L4Eq, br_pos, Int.toNat_natCast, g1, Option.bind_some, br_pos c1, br_pos c2]
   exact Ev.bind hv (Ev.pure _)
  | true =>
   refine ⟨y, Ev.of_eq 1 ?_, ?_⟩
   ·simp (disch := omega) only [Z42L4Eq, br_pos, Int.toNat_natCast, g1, Option.bind_some, br_pos c1, br_pos c2, wr1]
    refine Ev.bind hv ?_
    simp only [Bool.not_true, br_f]
    exact e
   ·rcases hy with ⟨a', b', h1, h2, h3, h4⟩ | h1
    ·exact .inl ⟨a', b', h1, h2, h3, fun q hq => by
      rcases List.mem_cons.1 hq with rfl | hq
      ·exact hvt rfl
      ·exact h4 q hq⟩
    ·exact .inr h1
theorem partsOkEv (l : List PartT) (m : Int) (hl : l.length ≤ 8) : ∃ b, Ev (fun n => Z42 n l m) b ∧ (b = true → ∀ p ∈ l, p.2.1.length ≤ 4 ∧ ∀ x ∈ p.2.1, Bb 10 x) := by
 obtain ⟨y, e, hy⟩ := partsL4 l m hl l 0 [] [] rfl (Nat.zero_le _) (Nat.le_refl _) (Nat.le_refl _)
 rcases hy with ⟨a', b', rfl, h2, h3, h4⟩ | rfl
 ·obtain ⟨v, hv⟩ := namesTot a' (by omega)
  obtain ⟨u, hu⟩ := unlikeTot b' m (by omega)
  have c1 : ((l.length : Nat) : Int) ≤ 8 := by omega
  cases v with
  | false =>
   refine ⟨false, Ev.of_eq 1 ?_, fun e => by cases e⟩
   simp only [Z42Eq]
   refine Ev.bind e ?_
   simp only [br_pos c1]
   exact Ev.bind hv (Ev.pure _)
  | true =>
   refine ⟨u, Ev.of_eq 1 ?_, fun _ => h4⟩
   simp only [Z42Eq]
   refine Ev.bind e ?_
   simp only [br_pos c1]
   refine Ev.bind hv ?_
   simp only [br_t]
   exact Ev.bind hu (Ev.pure _)
 ·refine ⟨false, Ev.of_eq 1 ?_, fun e => by cases e⟩
  simp only [Z42Eq]
  exact Ev.bind e (Ev.pure _)
end Go.Rm
namespace Go.Rm
open Go Go.Am Go.Proofs Go.Hu Go.Mo
theorem dirEv (d : Dir) : ∃ b, Ev (fun n => Z55 n d) b ∧ (b = true → DirOk d.2.2 d) := by
 by_cases h1 : d.2.2 < 0
 ·refine ⟨false, Ev.of_eq 1 ?_, fun e => by cases e⟩
  simp only [Z55Eq, br_pos h1]; exact Ev.pure _
 by_cases h2 : 3 < d.2.2
 ·refine ⟨false, Ev.of_eq 1 ?_, fun e => by cases e⟩
  simp only [Z55Eq, br_neg h1, br_pos h2]; exact Ev.pure _
 have hp := pow65_pos d.2.2
 have hpw := rpowEv (m := d.2.2) (by omega)
 have e0 : IntKind.i64.wrap (0 - pow65 d.2.2) = -pow65 d.2.2 := by rw [w64 (by omega) (by omega)]; omega
 by_cases g1 : -pow65 d.2.2 ≤ d.1
 ·by_cases g2 : d.1 ≤ pow65 d.2.2
  ·by_cases g3 : -pow65 d.2.2 ≤ d.2.1
   ·by_cases g4 : d.2.1 ≤ pow65 d.2.2
    ·have hx := mul_bd2 (a := d.1) (b := d.1) (A := 274625) (B := 274625) (by omega) (by omega)
     have hy := mul_bd2 (a := d.2.1) (b := d.2.1) (A := 274625) (B := 274625) (by omega) (by omega)
     have hz := mul_bd2 (a := pow65 d.2.2) (b := pow65 d.2.2) (A := 274625) (B := 274625) (by omega) (by omega)
     refine ⟨decide (d.1 * d.1 + d.2.1 * d.2.1 = pow65 d.2.2 * pow65 d.2.2), Ev.of_eq 1 ?_, fun e => ⟨rfl, by omega, by simpa using e⟩⟩
     simp only [Z55Eq, br_neg h1, br_neg h2]
     refine Ev.bind hpw ?_
     simp only [e0, br_pos g1, br_pos g2, br_pos g3, br_pos g4]
     rw [w64 (n := d.1 * d.1) (by omega) (by omega), w64 (n := d.2.1 * d.2.1) (by omega) (by omega), w64 (n := d.1 * d.1 + d.2.1 * d.2.1) (by omega) (by omega), w64 (n := pow65 d.2.2 * pow65 d.2.2) (by omega) (by omega)]
     exact Ev.pure _
    ·refine ⟨false, Ev.of_eq 1 ?_, fun e => by cases e⟩
     simp only [Z55Eq, br_neg h1, br_neg h2]
     refine Ev.bind hpw ?_
     simp only [e0, br_pos g1, br_pos g2, br_pos g3, br_neg g4]; exact Ev.pure _
   ·refine ⟨false, Ev.of_eq 1 ?_, fun e => by cases e⟩
    simp only [Z55Eq, br_neg h1, br_neg h2]
    refine Ev.bind hpw ?_
    simp only [e0, br_pos g1, br_pos g2, br_neg g3]; exact Ev.pure _
  ·refine ⟨false, Ev.of_eq 1 ?_, fun e => by cases e⟩
   simp only [Z55Eq, br_neg h1, br_neg h2]
   refine Ev.bind hpw ?_
   simp only [e0, br_pos g1, br_neg g2]; exact Ev.pure _
 ·refine ⟨false, Ev.of_eq 1 ?_, fun e => by cases e⟩
  simp only [Z55Eq, br_neg h1, br_neg h2]
  refine Ev.bind hpw ?_
  simp only [e0, br_neg g1]; exact Ev.pure _
theorem placesL3 (l : List PlaceT) (hl : l.length ≤ 1000) : ∀ (r : List PlaceT) (i : Nat) (a : List ByteArray), l.drop i = r → i ≤ l.length → a.length ≤ i →
  ∃ y, Ev (fun n => Z41L3 n ((l, (a, (((i : Nat) : Int), ()))), ())) y ∧ ((∃ a', y = .inl ((l, (a', ())), ()) ∧ a'.length ≤ 1000 ∧ ∀ p ∈ r, Bb 439400000 p.2.1 ∧ DirOk 3 p.2.2) ∨ y = .inr ((false, ()), ())) := by
 intro r
 induction r with
 | nil =>
  intro i a h hi ha
  have := gdrop_nil h
  refine ⟨_, Ev.of_eq 1 ?_, .inl ⟨a, rfl, by omega, fun p hp => by cases hp⟩⟩
  simp (disch := omega) only [Z41L3Eq, br_neg]
  exact Ev.pure _
 | cons p r ih =>
  intro i a h hi ha
  obtain ⟨g1, g2, g3⟩ := gdrop h
  obtain ⟨v, hv, hvt⟩ := dirEv p.2.2
  obtain ⟨y, e, hy⟩ := ih (i + 1) (a ++ [p.1]) g2 (by omega) (by simp; omega)
  have c1 : (a.length + [p.1].length) * 16 ≤ 140737488355328 := by simp only [List.length_cons, List.length_nil]; omega
  by_cases m1 : p.2.1.1.tmod 16 = 0
  rotate_left
  ·refine ⟨_, Ev.of_eq 1 ?_, .inr rfl⟩
   simp (disch := omega) only [Z41L3Eq, br_pos, Int.toNat_natCast, g1, Option.bind_some, br_pos c1, nbr_neg m1]
   exact Ev.pure _
  by_cases m2 : p.2.1.2.tmod 16 = 0
  rotate_left
  ·refine ⟨_, Ev.of_eq 1 ?_, .inr rfl⟩
   simp (disch := omega) only [Z41L3Eq, br_pos, Int.toNat_natCast, g1, Option.bind_some, br_pos c1, nbr_pos m1, nbr_neg m2]
   exact Ev.pure _
  by_cases m3 : (373490000 : Int) < (if decide (p.2.1.1 < p.2.1.2) = true then p.2.1.2 else p.2.1.1)
  ·refine ⟨_, Ev.of_eq 1 ?_, .inr rfl⟩
   simp (disch := omega) only [Z41L3Eq, br_pos, Int.toNat_natCast, g1, Option.bind_some, br_pos c1, nbr_pos m1, nbr_pos m2, br_pos m3]
   exact Ev.pure _
  by_cases m4 : (if decide (p.2.1.2 < p.2.1.1) = true then p.2.1.2 else p.2.1.1) < (-373490000 : Int)
  ·refine ⟨_, Ev.of_eq 1 ?_, .inr rfl⟩
   simp (disch := omega) only [Z41L3Eq, br_pos, Int.toNat_natCast, g1, Option.bind_some, br_pos c1, nbr_pos m1, nbr_pos m2, br_neg m3, br_pos m4]
   exact Ev.pure _
  by_cases m5 : p.2.2.2.2 = 3
  rotate_left
  ·refine ⟨_, Ev.of_eq 1 ?_, .inr rfl⟩
   simp (disch := omega) only [Z41L3Eq, br_pos, Int.toNat_natCast, g1, Option.bind_some, br_pos c1, nbr_pos m1, nbr_pos m2, br_neg m3, br_neg m4, nbr_neg m5]
   exact Ev.pure _
  cases v with
  | false =>
   refine ⟨_, Ev.of_eq 1 ?_, .inr rfl⟩
   simp (disch := omega) only [Z41L3Eq, br_pos, Int.toNat_natCast, g1, Option.bind_some, br_pos c1, nbr_pos m1, nbr_pos m2, br_neg m3, br_neg m4, nbr_pos m5]
   exact Ev.bind hv (Ev.pure _)
  | true =>
   refine ⟨y, Ev.of_eq 1 ?_, ?_⟩
   ·simp (disch := omega) only [Z41L3Eq, br_pos, Int.toNat_natCast, g1, Option.bind_some, br_pos c1, nbr_pos m1, nbr_pos m2, br_neg m3, br_neg m4, nbr_pos m5, wr1]
    refine Ev.bind hv ?_
    simp only [Bool.not_true, br_f]
    exact e
   ·rcases hy with ⟨a', h1, h2, h3⟩ | h1
    ·exact .inl ⟨a', h1, h2, fun q hq => by
      rcases List.mem_cons.1 hq with rfl | hq
      ·refine ⟨?_, by have := hvt rfl; rw [m5] at this; exact this⟩
       simp only [decide_eq_true_eq] at m3 m4
       unfold Bb
       split at m3 <;> split at m4 <;> omega
      ·exact h3 q hq⟩
    ·exact .inr h1
theorem placesEv (l : List PlaceT) (hl : l.length ≤ 16) : ∃ b, Ev (fun n => Z41 n l) b ∧ (b = true → ∀ p ∈ l, Bb 439400000 p.2.1 ∧ DirOk 3 p.2.2) := by
 obtain ⟨y, e, hy⟩ := placesL3 l (by omega) l 0 [] rfl (Nat.zero_le _) (Nat.le_refl _)
 have c1 : ((l.length : Nat) : Int) ≤ 16 := by omega
 rcases hy with ⟨a', rfl, h2, h3⟩ | rfl
 ·obtain ⟨v, hv⟩ := namesTot a' h2
  refine ⟨v, Ev.of_eq 1 ?_, fun _ => h3⟩
  simp only [Z41Eq]
  refine Ev.bind e ?_
  simp only [br_pos c1]
  exact Ev.bind hv (Ev.pure _)
 ·refine ⟨false, Ev.of_eq 1 ?_, fun e => by cases e⟩
  simp only [Z41Eq]
  exact Ev.bind e (Ev.pure _)
end Go.Rm
namespace Go.Rm
open Go Go.Am Go.Proofs Go.Hu Go.Mo
theorem farTot (a : ArmT) : ∃ b, Ev (fun n => Z52 n a) b ∧ (b = false → Bb 1000000000 a.1) := by
 by_cases h1 : (1000000000 : Int) < a.1.1
 ·refine ⟨true, Ev.of_eq 1 ?_, fun e => by cases e⟩
  simp only [Z52Eq, br_pos h1]; exact Ev.pure _
 by_cases h2 : a.1.1 < (-1000000000 : Int)
 ·refine ⟨true, Ev.of_eq 1 ?_, fun e => by cases e⟩
  simp only [Z52Eq, br_neg h1, br_pos h2]; exact Ev.pure _
 by_cases h3 : (1000000000 : Int) < a.1.2
 ·refine ⟨true, Ev.of_eq 1 ?_, fun e => by cases e⟩
  simp only [Z52Eq, br_neg h1, br_neg h2, br_pos h3]; exact Ev.pure _
 refine ⟨decide (a.1.2 < (-1000000000 : Int)), Ev.of_eq 1 ?_, fun e => ?_⟩
 ·simp only [Z52Eq, br_neg h1, br_neg h2, br_neg h3]; exact Ev.pure _
 ·rw [decide_eq_false_iff_not] at e
  unfold Bb; omega
theorem sizeEv {x : Int} (h : -1000000000 ≤ x ∧ x ≤ 1000000000) : Ev (fun n => Z53 n x) (if x < 0 then -x else x) := by
 refine Ev.of_eq 1 ?_
 by_cases h1 : x < 0
 ·simp (disch := omega) only [Z53Eq, br_pos h1, w64, if_pos h1]
  exact (Ev.pure _).congr (by omega)
 ·simp only [Z53Eq, br_neg h1, if_neg h1]
  exact Ev.pure _
def ArmR (a : ArmT) : Prop := Bb 439400000 a.1 ∧ ((1 ≤ a.2.1.1 ∧ a.2.1.1 ≤ 40) ∧ (1 ≤ a.2.1.2.1 ∧ a.2.1.2.1 ≤ 40) ∧ (1 ≤ a.2.1.2.2 ∧ a.2.1.2.2 ≤ 40)) ∧ (1 ≤ a.2.2.1 ∧ a.2.2.1 ≤ 4) ∧
 ((-17 ≤ a.2.2.2.1.1 ∧ a.2.2.2.1.1 ≤ 18) ∧ (-17 ≤ a.2.2.2.1.2.1 ∧ a.2.2.2.1.2.1 ≤ 18) ∧ (-17 ≤ a.2.2.2.1.2.2 ∧ a.2.2.2.1.2.2 ≤ 18)) ∧
 ((-17 ≤ a.2.2.2.2.1 ∧ a.2.2.2.2.1 ≤ 18) ∧ (-17 ≤ a.2.2.2.2.2.1 ∧ a.2.2.2.2.2.1 ≤ 18) ∧ (-17 ≤ a.2.2.2.2.2.2 ∧ a.2.2.2.2.2.2 ≤ 18))
theorem armEv (a : ArmT) : ∃ b, Ev (fun n => Z37 n a) b ∧ (b = true → ArmR a) := by
 obtain ⟨v, hv, hvf⟩ := farTot a
 cases v with
 | true =>
  refine ⟨false, Ev.of_eq 1 ?_, fun e => by cases e⟩
  simp only [Z37Eq]
  exact Ev.bind hv (Ev.pure _)
 | false =>
 have hb := hvf rfl
 unfold Bb at hb
 by_cases h0 : a.2.2.1 < (1 : Int)
 ·refine ⟨false, Ev.of_eq 1 ?_, fun e => by cases e⟩
  simp only [Z37Eq]
  refine Ev.bind hv ?_
  simp only [br_f, br_pos h0]
  exact Ev.pure _
 by_cases h1 : (4 : Int) < a.2.2.1
 ·refine ⟨false, Ev.of_eq 1 ?_, fun e => by cases e⟩
  simp only [Z37Eq]
  refine Ev.bind hv ?_
  simp only [br_f, br_neg h0, br_pos h1]
  exact Ev.pure _
 by_cases h2 : ((a.1.1).tmod (16 : Int)) = (0 : Int)
 rotate_left
 ·refine ⟨false, Ev.of_eq 1 ?_, fun e => by cases e⟩
  simp only [Z37Eq]
  refine Ev.bind hv ?_
  simp only [br_f, br_neg h0, br_neg h1, nbr_neg h2]
  exact Ev.pure _
 by_cases h3 : ((a.1.2).tmod (16 : Int)) = (0 : Int)
 rotate_left
 ·refine ⟨false, Ev.of_eq 1 ?_, fun e => by cases e⟩
  simp only [Z37Eq]
  refine Ev.bind hv ?_
  simp only [br_f, br_neg h0, br_neg h1, nbr_pos h2, nbr_neg h3]
  exact Ev.pure _
 by_cases h4 : a.2.1.1 < (1 : Int)
 ·refine ⟨false, Ev.of_eq 1 ?_, fun e => by cases e⟩
  simp only [Z37Eq]
  refine Ev.bind hv ?_
  simp only [br_f, br_neg h0, br_neg h1, nbr_pos h2, nbr_pos h3, br_pos h4]
  exact Ev.pure _
 by_cases h5 : (40 : Int) < a.2.1.1
 ·refine ⟨false, Ev.of_eq 1 ?_, fun e => by cases e⟩
  simp only [Z37Eq]
  refine Ev.bind hv ?_
  simp only [br_f, br_neg h0, br_neg h1, nbr_pos h2, nbr_pos h3, br_neg h4, br_pos h5]
  exact Ev.pure _
 by_cases h6 : a.2.2.2.1.1 < (-17 : Int)
 ·refine ⟨false, Ev.of_eq 1 ?_, fun e => by cases e⟩
  simp only [Z37Eq]
  refine Ev.bind hv ?_
  simp only [br_f, br_neg h0, br_neg h1, nbr_pos h2, nbr_pos h3, br_neg h4, br_neg h5, br_pos h6]
  exact Ev.pure _
 by_cases h7 : (18 : Int) < a.2.2.2.1.1
 ·refine ⟨false, Ev.of_eq 1 ?_, fun e => by cases e⟩
  simp only [Z37Eq]
  refine Ev.bind hv ?_
  simp only [br_f, br_neg h0, br_neg h1, nbr_pos h2, nbr_pos h3, br_neg h4, br_neg h5, br_neg h6, br_pos h7]
  exact Ev.pure _
 by_cases h8 : a.2.2.2.2.1 < (-17 : Int)
 ·refine ⟨false, Ev.of_eq 1 ?_, fun e => by cases e⟩
  simp only [Z37Eq]
  refine Ev.bind hv ?_
  simp only [br_f, br_neg h0, br_neg h1, nbr_pos h2, nbr_pos h3, br_neg h4, br_neg h5, br_neg h6, br_neg h7, br_pos h8]
  exact Ev.pure _
 by_cases h9 : (18 : Int) < a.2.2.2.2.1
 ·refine ⟨false, Ev.of_eq 1 ?_, fun e => by cases e⟩
  simp only [Z37Eq]
  refine Ev.bind hv ?_
  simp only [br_f, br_neg h0, br_neg h1, nbr_pos h2, nbr_pos h3, br_neg h4, br_neg h5, br_neg h6, br_neg h7, br_neg h8, br_pos h9]
  exact Ev.pure _
 by_cases h10 : a.2.2.2.2.1 < a.2.2.2.1.1
 ·refine ⟨false, Ev.of_eq 1 ?_, fun e => by cases e⟩
  simp only [Z37Eq]
  refine Ev.bind hv ?_
  simp only [br_f, br_neg h0, br_neg h1, nbr_pos h2, nbr_pos h3, br_neg h4, br_neg h5, br_neg h6, br_neg h7, br_neg h8, br_neg h9, br_pos h10]
  exact Ev.pure _
 by_cases h11 : a.2.1.2.1 < (1 : Int)
 ·refine ⟨false, Ev.of_eq 1 ?_, fun e => by cases e⟩
  simp only [Z37Eq]
  refine Ev.bind hv ?_
  simp only [br_f, br_neg h0, br_neg h1, nbr_pos h2, nbr_pos h3, br_neg h4, br_neg h5, br_neg h6, br_neg h7, br_neg h8, br_neg h9, br_neg h10, br_pos h11]
  exact Ev.pure _
 by_cases h12 : (40 : Int) < a.2.1.2.1
 ·refine ⟨false, Ev.of_eq 1 ?_, fun e => by cases e⟩
  simp only [Z37Eq]
  refine Ev.bind hv ?_
  simp only [br_f, br_neg h0, br_neg h1, nbr_pos h2, nbr_pos h3, br_neg h4, br_neg h5, br_neg h6, br_neg h7, br_neg h8, br_neg h9, br_neg h10, br_neg h11, br_pos h12]
  exact Ev.pure _
 by_cases h13 : a.2.2.2.1.2.1 < (-17 : Int)
 ·refine ⟨false, Ev.of_eq 1 ?_, fun e => by cases e⟩
  simp only [Z37Eq]
  refine Ev.bind hv ?_
  simp only [br_f, br_neg h0, br_neg h1, nbr_pos h2, nbr_pos h3, br_neg h4, br_neg h5, br_neg h6, br_neg h7, br_neg h8, br_neg h9, br_neg h10, br_neg h11, br_neg h12, br_pos h13]
  exact Ev.pure _
 by_cases h14 : (18 : Int) < a.2.2.2.1.2.1
 ·refine ⟨false, Ev.of_eq 1 ?_, fun e => by cases e⟩
  simp only [Z37Eq]
  refine Ev.bind hv ?_
  simp only [br_f, br_neg h0, br_neg h1, nbr_pos h2, nbr_pos h3, br_neg h4, br_neg h5, br_neg h6, br_neg h7, br_neg h8, br_neg h9, br_neg h10, br_neg h11, br_neg h12, br_neg h13, br_pos h14]
  exact Ev.pure _
 by_cases h15 : a.2.2.2.2.2.1 < (-17 : Int)
 ·refine ⟨false, Ev.of_eq 1 ?_, fun e => by cases e⟩
  simp only [Z37Eq]
  refine Ev.bind hv ?_
  simp only [br_f, br_neg h0, br_neg h1, nbr_pos h2, nbr_pos h3, br_neg h4, br_neg h5, br_neg h6, br_neg h7, br_neg h8, br_neg h9, br_neg h10, br_neg h11, br_neg h12, br_neg h13, br_neg h14, br_pos h15]
  exact Ev.pure _
 by_cases h16 : (18 : Int) < a.2.2.2.2.2.1
 ·refine ⟨false, Ev.of_eq 1 ?_, fun e => by cases e⟩
  simp only [Z37Eq]
  refine Ev.bind hv ?_
  simp only [br_f, br_neg h0, br_neg h1, nbr_pos h2, nbr_pos h3, br_neg h4, br_neg h5, br_neg h6, br_neg h7, br_neg h8, br_neg h9, br_neg h10, br_neg h11, br_neg h12, br_neg h13, br_neg h14, br_neg h15, br_pos h16]
  exact Ev.pure _
 by_cases h17 : a.2.2.2.2.2.1 < a.2.2.2.1.2.1
 ·refine ⟨false, Ev.of_eq 1 ?_, fun e => by cases e⟩
  simp only [Z37Eq]
  refine Ev.bind hv ?_
  simp only [br_f, br_neg h0, br_neg h1, nbr_pos h2, nbr_pos h3, br_neg h4, br_neg h5, br_neg h6, br_neg h7, br_neg h8, br_neg h9, br_neg h10, br_neg h11, br_neg h12, br_neg h13, br_neg h14, br_neg h15, br_neg h16, br_pos h17]
  exact Ev.pure _
 by_cases h18 : a.2.1.2.2 < (1 : Int)
 ·refine ⟨false, Ev.of_eq 1 ?_, fun e => by cases e⟩
  simp only [Z37Eq]
  refine Ev.bind hv ?_
  simp only [br_f, br_neg h0, br_neg h1, nbr_pos h2, nbr_pos h3, br_neg h4, br_neg h5, br_neg h6, br_neg h7, br_neg h8, br_neg h9, br_neg h10, br_neg h11, br_neg h12, br_neg h13, br_neg h14, br_neg h15, br_neg h16, br_neg h17, br_pos h18]
  exact Ev.pure _
 by_cases h19 : (40 : Int) < a.2.1.2.2
 ·refine ⟨false, Ev.of_eq 1 ?_, fun e => by cases e⟩
  simp only [Z37Eq]
  refine Ev.bind hv ?_
  simp only [br_f, br_neg h0, br_neg h1, nbr_pos h2, nbr_pos h3, br_neg h4, br_neg h5, br_neg h6, br_neg h7, br_neg h8, br_neg h9, br_neg h10, br_neg h11, br_neg h12, br_neg h13, br_neg h14, br_neg h15, br_neg h16, br_neg h17, br_neg h18, br_pos h19]
  exact Ev.pure _
 by_cases h20 : a.2.2.2.1.2.2 < (-17 : Int)
 ·refine ⟨false, Ev.of_eq 1 ?_, fun e => by cases e⟩
  simp only [Z37Eq]
  refine Ev.bind hv ?_
  simp only [br_f, br_neg h0, br_neg h1, nbr_pos h2, nbr_pos h3, br_neg h4, br_neg h5, br_neg h6, br_neg h7, br_neg h8, br_neg h9, br_neg h10, br_neg h11, br_neg h12, br_neg h13, br_neg h14, br_neg h15, br_neg h16, br_neg h17, br_neg h18, br_neg h19, br_pos h20]
  exact Ev.pure _
 by_cases h21 : (18 : Int) < a.2.2.2.1.2.2
 ·refine ⟨false, Ev.of_eq 1 ?_, fun e => by cases e⟩
  simp only [Z37Eq]
  refine Ev.bind hv ?_
  simp only [br_f, br_neg h0, br_neg h1, nbr_pos h2, nbr_pos h3, br_neg h4, br_neg h5, br_neg h6, br_neg h7, br_neg h8, br_neg h9, br_neg h10, br_neg h11, br_neg h12, br_neg h13, br_neg h14, br_neg h15, br_neg h16, br_neg h17, br_neg h18, br_neg h19, br_neg h20, br_pos h21]
  exact Ev.pure _
 by_cases h22 : a.2.2.2.2.2.2 < (-17 : Int)
 ·refine ⟨false, Ev.of_eq 1 ?_, fun e => by cases e⟩
  simp only [Z37Eq]
  refine Ev.bind hv ?_
  simp only [br_f, br_neg h0, br_neg h1, nbr_pos h2, nbr_pos h3, br_neg h4, br_neg h5, br_neg h6, br_neg h7, br_neg h8, br_neg h9, br_neg h10, br_neg h11, br_neg h12, br_neg h13, br_neg h14, br_neg h15, br_neg h16, br_neg h17, br_neg h18, br_neg h19, br_neg h20, br_neg h21, br_pos h22]
  exact Ev.pure _
 by_cases h23 : (18 : Int) < a.2.2.2.2.2.2
 ·refine ⟨false, Ev.of_eq 1 ?_, fun e => by cases e⟩
  simp only [Z37Eq]
  refine Ev.bind hv ?_
  simp only [br_f, br_neg h0, br_neg h1, nbr_pos h2, nbr_pos h3, br_neg h4, br_neg h5, br_neg h6, br_neg h7, br_neg h8, br_neg h9, br_neg h10, br_neg h11, br_neg h12, br_neg h13, br_neg h14, br_neg h15, br_neg h16, br_neg h17, br_neg h18, br_neg h19, br_neg h20, br_neg h21, br_neg h22, br_pos h23]
  exact Ev.pure _
 by_cases h24 : a.2.2.2.2.2.2 < a.2.2.2.1.2.2
 ·refine ⟨false, Ev.of_eq 1 ?_, fun e => by cases e⟩
  simp only [Z37Eq]
  refine Ev.bind hv ?_
  simp only [br_f, br_neg h0, br_neg h1, nbr_pos h2, nbr_pos h3, br_neg h4, br_neg h5, br_neg h6, br_neg h7, br_neg h8, br_neg h9, br_neg h10, br_neg h11, br_neg h12, br_neg h13, br_neg h14, br_neg h15, br_neg h16, br_neg h17, br_neg h18, br_neg h19, br_neg h20, br_neg h21, br_neg h22, br_neg h23, br_pos h24]
  exact Ev.pure _
 have s1 := sizeEv (x := a.1.1) (by omega)
 have s2 := sizeEv (x := a.1.2) (by omega)
 by_cases g : (if a.1.1 < 0 then -a.1.1 else a.1.1) + (a.2.2.1 + a.2.1.1 + a.2.1.2.1 + a.2.1.2.2) * 4394000 ≤ 439400000
 ·refine ⟨decide ((if a.1.2 < 0 then -a.1.2 else a.1.2) + (a.2.2.1 + a.2.1.1 + a.2.1.2.1 + a.2.1.2.2) * 4394000 ≤ 439400000), Ev.of_eq 1 ?_, fun e => ?_⟩
  ·simp only [Z37Eq]
   refine Ev.bind hv ?_
   simp only [br_f, br_neg h0, br_neg h1, nbr_pos h2, nbr_pos h3, br_neg h4, br_neg h5, br_neg h6, br_neg h7, br_neg h8, br_neg h9, br_neg h10, br_neg h11, br_neg h12, br_neg h13, br_neg h14, br_neg h15, br_neg h16, br_neg h17, br_neg h18, br_neg h19, br_neg h20, br_neg h21, br_neg h22, br_neg h23, br_neg h24]
   refine Ev.bind s1 ?_
   rw [show (fun n => _) = fun n => _ from rfl]
   have b1 : -1000000000 ≤ (if a.1.1 < 0 then -a.1.1 else a.1.1) ∧ (if a.1.1 < 0 then -a.1.1 else a.1.1) ≤ 1000000000 := by split <;> omega
   have b2 : -1000000000 ≤ (if a.1.2 < 0 then -a.1.2 else a.1.2) ∧ (if a.1.2 < 0 then -a.1.2 else a.1.2) ≤ 1000000000 := by split <;> omega
   generalize (if a.1.1 < 0 then -a.1.1 else a.1.1) = u1 at b1 g ⊢
   generalize (if a.1.2 < 0 then -a.1.2 else a.1.2) = u2 at b2 s2 ⊢
   simp (disch := omega) only [w64, br_pos g]
   refine Ev.bind s2 ?_
   simp (disch := omega) only [w64]
   exact Ev.pure _
  ·simp only [decide_eq_true_eq] at e
   unfold ArmR Bb
   split at g <;> split at e <;> omega
 ·refine ⟨false, Ev.of_eq 1 ?_, fun e => by cases e⟩
  simp only [Z37Eq]
  refine Ev.bind hv ?_
  simp only [br_f, br_neg h0, br_neg h1, nbr_pos h2, nbr_pos h3, br_neg h4, br_neg h5, br_neg h6, br_neg h7, br_neg h8, br_neg h9, br_neg h10, br_neg h11, br_neg h12, br_neg h13, br_neg h14, br_neg h15, br_neg h16, br_neg h17, br_neg h18, br_neg h19, br_neg h20, br_neg h21, br_neg h22, br_neg h23, br_neg h24]
  refine Ev.bind s1 ?_
  have b1 : -1000000000 ≤ (if a.1.1 < 0 then -a.1.1 else a.1.1) ∧ (if a.1.1 < 0 then -a.1.1 else a.1.1) ≤ 1000000000 := by split <;> omega
  generalize (if a.1.1 < 0 then -a.1.1 else a.1.1) = u1 at b1 g ⊢
  simp (disch := omega) only [w64, br_neg g]
  exact Ev.pure _
end Go.Rm
namespace Go.Rm
open Go Go.Am Go.Proofs Go.Hu Go.Mo
def Near (a : ArmT) : Prop := (8 * a.1.1 + 39546000 * (a.2.1.1 + a.2.1.2.1 + a.2.1.2.2 + 15) ≤ 3515200000 ∧ -(8 * a.1.1) + 39546000 * (a.2.1.1 + a.2.1.2.1 + a.2.1.2.2 + 15) ≤ 3515200000) ∧
  (8 * a.1.2 + 39546000 * (a.2.1.1 + a.2.1.2.1 + a.2.1.2.2 + 15) ≤ 3515200000 ∧ -(8 * a.1.2) + 39546000 * (a.2.1.1 + a.2.1.2.1 + a.2.1.2.2 + 15) ≤ 3515200000)
theorem ArmR.ok {a : ArmT} (h : ArmR a) (n : Near a) : ArmOk a := by
 obtain ⟨h1, h2, h3, h4, h5⟩ := h
 exact ⟨h1, h2, h3, h4, n, h5⟩
theorem max_wrap {x : Int} (h : -439400000 ≤ x ∧ x ≤ 439400000) : (if decide (x < IntKind.i64.wrap (0 - x)) = true then IntKind.i64.wrap (0 - x) else x) = (if x < 0 then -x else x) := by
 have e : IntKind.i64.wrap (0 - x) = -x := by rw [w64 (by omega) (by omega)]; omega
 rw [e]
 by_cases h1 : x < 0
 ·rw [if_pos h1, if_pos (by rw [decide_eq_true_eq]; omega)]
 ·rw [if_neg h1, if_neg (by rw [decide_eq_true_eq]; omega)]
theorem near_pick {R : Type} {a : ArmT} (ha : ArmR a) {F : R} {N : Nat → Option R} {P : R → Prop} (hF : P F) (hN : Near a → ∃ y, Ev N y ∧ P y) :
  ∃ y, Ev (fun n => br (decide ((3515200000 : Int) < (IntKind.i64.wrap ((IntKind.i64.wrap ((8 : Int) * (if decide (a.1.1 < (IntKind.i64.wrap (0 - a.1.1))) = true then (IntKind.i64.wrap (0 - a.1.1)) else a.1.1))) + (IntKind.i64.wrap ((39546000 : Int) * (IntKind.i64.wrap ((IntKind.i64.wrap ((IntKind.i64.wrap (a.2.1.1 + a.2.1.2.1)) + a.2.1.2.2)) + (15 : Int))))))))) (some F)
   (br (decide ((3515200000 : Int) < (IntKind.i64.wrap ((IntKind.i64.wrap ((8 : Int) * (if decide (a.1.2 < (IntKind.i64.wrap (0 - a.1.2))) = true then (IntKind.i64.wrap (0 - a.1.2)) else a.1.2))) + (IntKind.i64.wrap ((39546000 : Int) * (IntKind.i64.wrap ((IntKind.i64.wrap ((IntKind.i64.wrap (a.2.1.1 + a.2.1.2.1)) + a.2.1.2.2)) + (15 : Int))))))))) (some F) (N n))) y ∧ P y := by
 obtain ⟨h1, h2, h3, h4, h5⟩ := ha
 unfold Bb at h1
 have e1 := max_wrap (x := a.1.1) (by omega)
 have e2 := max_wrap (x := a.1.2) (by omega)
 rw [e1, e2]
 have b1 : 0 ≤ (if a.1.1 < 0 then -a.1.1 else a.1.1) ∧ (if a.1.1 < 0 then -a.1.1 else a.1.1) ≤ 439400000 := by split <;> omega
 have b2 : 0 ≤ (if a.1.2 < 0 then -a.1.2 else a.1.2) ∧ (if a.1.2 < 0 then -a.1.2 else a.1.2) ≤ 439400000 := by split <;> omega
 have u1 : ∀ x : Int, 0 ≤ x ∧ x ≤ 439400000 → IntKind.i64.wrap (IntKind.i64.wrap (8 * x) + IntKind.i64.wrap (39546000 * IntKind.i64.wrap (IntKind.i64.wrap (IntKind.i64.wrap (a.2.1.1 + a.2.1.2.1) + a.2.1.2.2) + 15))) = 8 * x + 39546000 * (a.2.1.1 + a.2.1.2.1 + a.2.1.2.2 + 15) := fun x hx => by
  rw [w64 (n := a.2.1.1 + a.2.1.2.1) (by omega) (by omega), w64 (n := a.2.1.1 + a.2.1.2.1 + a.2.1.2.2) (by omega) (by omega), w64 (n := a.2.1.1 + a.2.1.2.1 + a.2.1.2.2 + 15) (by omega) (by omega), w64 (n := 8 * x) (by omega) (by omega), w64 (n := 39546000 * (a.2.1.1 + a.2.1.2.1 + a.2.1.2.2 + 15)) (by omega) (by omega), w64 (by omega) (by omega)]
 rw [u1 _ b1, u1 _ b2]
 by_cases g1 : (3515200000 : Int) < 8 * (if a.1.1 < 0 then -a.1.1 else a.1.1) + 39546000 * (a.2.1.1 + a.2.1.2.1 + a.2.1.2.2 + 15)
 ·simp only [br_pos g1]; exact ⟨_, Ev.pure _, hF⟩
 by_cases g2 : (3515200000 : Int) < 8 * (if a.1.2 < 0 then -a.1.2 else a.1.2) + 39546000 * (a.2.1.1 + a.2.1.2.1 + a.2.1.2.2 + 15)
 ·simp only [br_neg g1, br_pos g2]; exact ⟨_, Ev.pure _, hF⟩
 simp only [br_neg g1, br_neg g2]
 refine hN ?_
 unfold Near
 split at g1 <;> split at g2 <;> omega
end Go.Rm
namespace Go.Rm
open Go Go.Am Go.Proofs Go.Hu Go.Mo
def PL (c : CellT) (q : Prop) (y : ((Unit × Unit) × ((CellT × Unit) × Unit)) ⊕ ((Bool × Unit) × Unit)) : Prop := (y = .inl (((), ()), ((c, ()), ())) ∧ q) ∨ y = .inr ((false, ()), ())
theorem cellL2 (c : CellT) : ∃ y, Ev (fun n => Z29L2 n (((), ((0 : Int), ())), ((c, ()), ()))) y ∧ PL c (ArmOk c.1.1 ∧ ArmOk c.1.2) y := by
 have e2 : Ev (fun n => Z29L2 n (((), ((2 : Int), ())), ((c, ()), ()))) (.inl (((), ()), ((c, ()), ()))) := by
  refine Ev.of_eq 1 ?_
  simp (disch := omega) only [Z29L2Eq, br_neg]
  exact Ev.pure _
 have e1 : ∃ y, Ev (fun n => Z29L2 n (((), ((1 : Int), ())), ((c, ()), ()))) y ∧ PL c (ArmOk c.1.2) y := by
  obtain ⟨v, hv, hvt⟩ := armEv c.1.2
  cases v with
  | false =>
   refine ⟨_, Ev.of_eq 1 ?_, .inr rfl⟩
   simp (disch := omega) only [Z29L2Eq, br_pos, br_T]
   exact Ev.bind hv (Ev.pure _)
  | true =>
   cases hq : inLim c.1.2 c.2.1.2 with
   | false =>
    have hl := rlimEv c.1.2 c.2.1.2
    rw [hq] at hl
    refine ⟨_, Ev.of_eq 1 ?_, .inr rfl⟩
    simp (disch := omega) only [Z29L2Eq, br_pos, br_T]
    refine Ev.bind hv ?_
    simp only [Bool.not_true, br_f]
    exact Ev.bind hl (Ev.pure _)
   | true =>
    have hl := rlimEv c.1.2 c.2.1.2
    rw [hq] at hl
    obtain ⟨y, e, hy⟩ := near_pick (hvt rfl) (F := (.inr ((false, ()), ()) : ((Unit × Unit) × ((CellT × Unit) × Unit)) ⊕ ((Bool × Unit) × Unit))) (N := fun n => Z29L2 n (((), ((2 : Int), ())), ((c, ()), ()))) (P := PL c (ArmOk c.1.2)) (.inr rfl) fun hn => ⟨_, e2, .inl ⟨rfl, (hvt rfl).ok hn⟩⟩
    refine ⟨y, Ev.of_eq 1 ?_, hy⟩
    simp (disch := omega) only [Z29L2Eq, br_pos, br_T]
    refine Ev.bind hv ?_
    simp only [Bool.not_true, br_f]
    refine Ev.bind hl ?_
    have w2 : IntKind.i64.wrap ((1 : Int) + 1) = 2 := by rw [w64 (by omega) (by omega)]; rfl
    simp only [Bool.not_true, br_f, w2]
    exact e
 obtain ⟨y1, e1, hy1⟩ := e1
 obtain ⟨v, hv, hvt⟩ := armEv c.1.1
 cases v with
 | false =>
  refine ⟨_, Ev.of_eq 1 ?_, .inr rfl⟩
  simp (disch := omega) only [Z29L2Eq, br_pos, br_neg, br_T]
  exact Ev.bind hv (Ev.pure _)
 | true =>
  cases hq : inLim c.1.1 c.2.1.1 with
  | false =>
   have hl := rlimEv c.1.1 c.2.1.1
   rw [hq] at hl
   refine ⟨_, Ev.of_eq 1 ?_, .inr rfl⟩
   simp (disch := omega) only [Z29L2Eq, br_pos, br_neg, br_T]
   refine Ev.bind hv ?_
   simp only [Bool.not_true, br_f]
   exact Ev.bind hl (Ev.pure _)
  | true =>
   have hl := rlimEv c.1.1 c.2.1.1
   rw [hq] at hl
   obtain ⟨y, e, hy⟩ := near_pick (hvt rfl) (F := (.inr ((false, ()), ()) : ((Unit × Unit) × ((CellT × Unit) × Unit)) ⊕ ((Bool × Unit) × Unit))) (N := fun n => Z29L2 n (((), ((1 : Int), ())), ((c, ()), ()))) (P := PL c (ArmOk c.1.1 ∧ ArmOk c.1.2)) (.inr rfl) fun hn => ⟨y1, e1, by
    rcases hy1 with ⟨h1, h2⟩ | h1
    ·exact .inl ⟨h1, (hvt rfl).ok hn, h2⟩
    ·exact .inr h1⟩
   refine ⟨y, Ev.of_eq 1 ?_, hy⟩
   simp (disch := omega) only [Z29L2Eq, br_pos, br_neg, br_T]
   refine Ev.bind hv ?_
   simp only [Bool.not_true, br_f]
   refine Ev.bind hl ?_
   have w1 : IntKind.i64.wrap ((0 : Int) + 1) = 1 := by rw [w64 (by omega) (by omega)]; rfl
   simp only [Bool.not_true, br_f, w1]
   exact e
def CLen (c : CellT) : Prop := c.2.2.1.length ≤ 16 ∧ c.2.2.2.2.2.2.2.2.2.1.length ≤ 16 ∧ c.2.2.2.1.length ≤ 16 ∧ c.2.2.2.2.1.length ≤ 8 ∧ c.2.2.2.2.2.1.length ≤ 16
theorem cellEv (c : CellT) (hl : CLen c) : ∃ b, Ev (fun n => Z29 n c) b ∧ (b = true → COk c) := by
 obtain ⟨l1, l2, l3, l4, l5⟩ := hl
 have k1 : ¬ (16 : Int) < ((c.2.2.2.1.length : Nat) : Int) := by omega
 have k2 : ¬ (8 : Int) < ((c.2.2.2.2.1.length : Nat) : Int) := by omega
 have k3 : ¬ (16 : Int) < ((c.2.2.2.2.2.1.length : Nat) : Int) := by omega
 obtain ⟨y, e, hy⟩ := cellL2 c
 rcases hy with ⟨rfl, ha, hb⟩ | rfl
 rotate_left
 ·refine ⟨false, Ev.of_eq 1 ?_, fun e => by cases e⟩
  simp only [Z29Eq]
  exact Ev.bind e (Ev.pure _)
 -- the limits
 obtain ⟨u1, h1⟩ := boundedTot c.2.2.2.2.2.2.2.1
 obtain ⟨u2, h2⟩ := boundedTot c.2.2.2.2.2.2.2.2.1
 obtain ⟨t, ht⟩ : ∃ t : Bool, Ev (fun n => (Z38 n c.2.2.2.2.2.2.2.1).bind fun x => br x ((Z38 n c.2.2.2.2.2.2.2.2.1).bind fun x => br x (br (decide (c.2.2.2.2.2.2.2.2.1.1 ≤ c.2.2.2.2.2.2.2.1.1)) (br (decide (c.2.2.2.2.2.2.2.2.1.2.1 ≤ c.2.2.2.2.2.2.2.1.2.1)) (some ((((), ((decide (c.2.2.2.2.2.2.2.2.1.2.2 ≤ c.2.2.2.2.2.2.2.1.2.2)), ())), ((c, ()), ())) : (Unit × (Bool × Unit)) × ((CellT × Unit) × Unit))) (some (((), (false, ())), ((c, ()), ())))) (some (((), (false, ())), ((c, ()), ())))) (some (((), (false, ())), ((c, ()), ())))) (some (((), (false, ())), ((c, ()), ())))) (((), (t, ())), ((c, ()), ())) := by
  cases u1 with
  | false => exact ⟨_, Ev.bind h1 (Ev.pure _)⟩
  | true =>
   cases u2 with
   | false => exact ⟨_, Ev.bind h1 (Ev.bind h2 (Ev.pure _))⟩
   | true =>
    by_cases g1 : c.2.2.2.2.2.2.2.2.1.1 ≤ c.2.2.2.2.2.2.2.1.1
    ·by_cases g2 : c.2.2.2.2.2.2.2.2.1.2.1 ≤ c.2.2.2.2.2.2.2.1.2.1
     ·refine ⟨decide (c.2.2.2.2.2.2.2.2.1.2.2 ≤ c.2.2.2.2.2.2.2.1.2.2), Ev.bind h1 (Ev.bind h2 ?_)⟩
      simp only [br_t, br_pos g1, br_pos g2]; exact Ev.pure _
     ·refine ⟨false, Ev.bind h1 (Ev.bind h2 ?_)⟩
      simp only [br_t, br_pos g1, br_neg g2]; exact Ev.pure _
    ·refine ⟨false, Ev.bind h1 (Ev.bind h2 ?_)⟩
     simp only [br_t, br_neg g1]; exact Ev.pure _
 obtain ⟨b1, f1, p1⟩ := polysEv c.2.2.1
 obtain ⟨b2, f2, p2⟩ := polysEv c.2.2.2.2.2.2.2.2.2.1
 obtain ⟨b3, f3, p3⟩ := placesEv c.2.2.2.1 l3
 obtain ⟨b4, f4, p4⟩ := partsOkEv c.2.2.2.2.1 ((c.2.2.2.1.length : Nat) : Int) l4
 obtain ⟨b5, f5⟩ := unlikeTot c.2.2.2.2.2.1 ((c.2.2.2.1.length : Nat) : Int) (by omega)
 have fa := areasEv c (by omega)
 have start : ∀ {res : Bool} , Ev (fun n => (Z39 n c.2.2.1).bind fun x => br x ((Z40 n c).bind fun x => (Z39 n x).bind fun x => br x ((Z41 n c.2.2.2.1).bind fun x => br x ((Z42 n c.2.2.2.2.1 ((c.2.2.2.1.length : Nat) : Int)).bind fun x => br x ((Z43 n c.2.2.2.2.2.1 ((c.2.2.2.1.length : Nat) : Int)).bind fun x => br x (br (decide ((0 : Int) ≤ c.2.2.2.2.2.2.1)) (br (decide (c.2.2.2.2.2.2.1 ≤ (100 : Int))) (br t (br (decide ((0 : Int) ≤ c.2.2.2.2.2.2.2.2.2.2.1)) (br (decide (c.2.2.2.2.2.2.2.2.2.2.1 ≤ (20 : Int))) (br (decide ((1 : Int) ≤ c.2.2.2.2.2.2.2.2.2.2.2)) (some (decide (c.2.2.2.2.2.2.2.2.2.2.2 ≤ (8 : Int)))) (some false)) (some false)) (some false)) (some false)) (some false)) (some false)) (some false)) (some false)) (some false)) (some false)) (some false)) res → Ev (fun n => Z29 n c) res := fun hres => by
  refine Ev.of_eq 1 ?_
  simp only [Z29Eq]
  refine Ev.bind e ?_
  simp only [br_neg k1, br_neg k2, br_neg k3]
  refine Ev.bind ht ?_
  exact hres
 cases b1 with
 | false => exact ⟨false, start (Ev.bind f1 (Ev.pure _)), fun e => by cases e⟩
 | true =>
 cases b2 with
 | false => exact ⟨false, start (Ev.bind f1 (Ev.bind fa (Ev.bind f2 (Ev.pure _)))), fun e => by cases e⟩
 | true =>
 cases b3 with
 | false => exact ⟨false, start (Ev.bind f1 (Ev.bind fa (Ev.bind f2 (Ev.bind f3 (Ev.pure _))))), fun e => by cases e⟩
 | true =>
 cases b4 with
 | false => exact ⟨false, start (Ev.bind f1 (Ev.bind fa (Ev.bind f2 (Ev.bind f3 (Ev.bind f4 (Ev.pure _)))))), fun e => by cases e⟩
 | true =>
 cases b5 with
 | false => exact ⟨false, start (Ev.bind f1 (Ev.bind fa (Ev.bind f2 (Ev.bind f3 (Ev.bind f4 (Ev.bind f5 (Ev.pure _))))))), fun e => by cases e⟩
 | true =>
  have hok : COk c := ⟨ha, hb, l1, fun p hp => ⟨((p1 rfl).2 p hp).1.2, ((p1 rfl).2 p hp).2⟩, l4, p4 rfl, l3, p3 rfl⟩
  have fin : ∀ (u1 u2 u3 u4 u5 u6 u7 : Bool), ∃ b, br u1 (br u2 (br u3 (br u4 (br u5 (br u6 (some u7) (some false)) (some false)) (some false)) (some false)) (some false)) (some false) = some b := by
   intro u1 u2 u3 u4 u5 u6 u7
   cases u1 <;> cases u2 <;> cases u3 <;> cases u4 <;> cases u5 <;> cases u6 <;> exact ⟨_, rfl⟩
  obtain ⟨b, hbb⟩ := fin (decide ((0 : Int) ≤ c.2.2.2.2.2.2.1)) (decide (c.2.2.2.2.2.2.1 ≤ (100 : Int))) t (decide ((0 : Int) ≤ c.2.2.2.2.2.2.2.2.2.2.1)) (decide (c.2.2.2.2.2.2.2.2.2.2.1 ≤ (20 : Int))) (decide ((1 : Int) ≤ c.2.2.2.2.2.2.2.2.2.2.2)) (decide (c.2.2.2.2.2.2.2.2.2.2.2 ≤ (8 : Int)))
  exact ⟨b, start (Ev.bind f1 (Ev.bind fa (Ev.bind f2 (Ev.bind f3 (Ev.bind f4 (Ev.bind f5 (Ev.const hbb))))))), fun _ => hok⟩
end Go.Rm
namespace Go.Rm
open Go Go.Am Go.Proofs Go.Hu Go.Mo
abbrev CW := (CellT × Unit) × ((Mo.StateT × Unit) × Unit)
theorem placedL15 (c : CellT) (w : Mo.StateT) (hl : w.2.2.length ≤ 8) (i : Nat) (hi : i < w.2.2.length) : ∀ (k j : Nat), j + k = i →
  ∃ y, Ev (fun n => Z44L15 n (((), ((), (((i : Nat) : Int), (((j : Nat) : Int), ())))), ((c, ()), ((w, ()), ())))) y ∧ (y = .inl (((), ((), (((i : Nat) : Int), ()))), ((c, ()), ((w, ()), ()))) ∨ y = .inr ((false, ()), ())) := by
 intro k
 induction k with
 | zero =>
  intro j h
  refine ⟨_, Ev.of_eq 1 ?_, .inl rfl⟩
  simp (disch := omega) only [Z44L15Eq, br_neg]
  exact Ev.pure _
 | succ k ih =>
  intro j h
  obtain ⟨y, e, hy⟩ := ih (j + 1) (by omega)
  have g1 : w.2.2[j]? = some w.2.2[j] := List.getElem?_eq_getElem (by omega)
  have g2 : w.2.2[i]? = some w.2.2[i] := List.getElem?_eq_getElem hi
  by_cases h0 : (0 : Int) ≤ w.2.2[i]
  ·by_cases hb : w.2.2[i] = w.2.2[j]
   ·refine ⟨_, Ev.of_eq 1 ?_, .inr rfl⟩
    simp (disch := omega) only [Z44L15Eq, br_pos, Int.toNat_natCast, g1, g2, Option.bind_some, br_pos h0, br_pos hb]
    exact Ev.pure _
   ·refine ⟨y, Ev.of_eq 1 ?_, hy⟩
    simp (disch := omega) only [Z44L15Eq, br_pos, Int.toNat_natCast, g1, g2, Option.bind_some, br_pos h0, br_neg hb, wr1]
    exact e
  ·refine ⟨y, Ev.of_eq 1 ?_, hy⟩
   simp (disch := omega) only [Z44L15Eq, br_pos, Int.toNat_natCast, g1, g2, Option.bind_some, br_neg h0, wr1]
   exact e
theorem placedL10 (c : CellT) (w : Mo.StateT) (hl : w.2.2.length ≤ 8) : ∀ (r : List Int) (i : Nat), w.2.2.drop i = r → i ≤ w.2.2.length →
  ∃ y, Ev (fun n => Z44L10 n (((), ((), (((i : Nat) : Int), ()))), ((c, ()), ((w, ()), ())))) y ∧ ((y = .inl ((), ()) ∧ ∀ k ∈ r, -1 ≤ k ∧ k < (c.2.2.2.1.length : Int)) ∨ y = .inr ((false, ()), ())) := by
 intro r
 induction r with
 | nil =>
  intro i h hi
  have := gdrop_nil h
  refine ⟨_, Ev.of_eq 1 ?_, .inl ⟨rfl, fun k hk => by cases hk⟩⟩
  simp (disch := omega) only [Z44L10Eq, br_neg]
  exact Ev.pure _
 | cons x r ih =>
  intro i h hi
  obtain ⟨g1, g2, g3⟩ := gdrop h
  obtain ⟨y, e, hy⟩ := ih (i + 1) g2 (by omega)
  obtain ⟨z, ez, hz⟩ := placedL15 c w hl i g3 i 0 (by omega)
  by_cases h1 : x < -1
  ·refine ⟨_, Ev.of_eq 1 ?_, .inr rfl⟩
   simp (disch := omega) only [Z44L10Eq, br_pos, Int.toNat_natCast, g1, Option.bind_some, br_pos h1]
   exact Ev.pure _
  by_cases h2 : ((c.2.2.2.1.length : Nat) : Int) ≤ x
  ·refine ⟨_, Ev.of_eq 1 ?_, .inr rfl⟩
   simp (disch := omega) only [Z44L10Eq, br_pos, Int.toNat_natCast, g1, Option.bind_some, br_neg h1, br_pos h2]
   exact Ev.pure _
  rcases hz with rfl | rfl
  ·refine ⟨y, Ev.of_eq 1 ?_, ?_⟩
   ·simp (disch := omega) only [Z44L10Eq, br_pos, Int.toNat_natCast, g1, Option.bind_some, br_neg h1, br_neg h2]
    refine Ev.bind ez ?_
    simp (disch := omega) only [wr1]
    exact e
   ·rcases hy with ⟨h3, h4⟩ | h3
    ·exact .inl ⟨h3, fun k hk => by
      rcases List.mem_cons.1 hk with rfl | hk
      ·omega
      ·exact h4 k hk⟩
    ·exact .inr h3
  ·refine ⟨_, Ev.of_eq 1 ?_, .inr rfl⟩
   simp (disch := omega) only [Z44L10Eq, br_pos, Int.toNat_natCast, g1, Option.bind_some, br_neg h1, br_neg h2]
   exact Ev.bind ez (Ev.pure _)
def HB (c : CellT) (h : Int) : Prop := -1 ≤ h ∧ h < (c.2.2.2.2.1.length : Int)
theorem held_pick {R : Type} {c : CellT} {w : Mo.StateT} (hwl : w.2.2.length = c.2.2.2.2.1.length) {h : Int} {F : R} {N : Nat → Option R} {P : R → Prop} (hF : P F) (hN : HB c h → ∃ y, Ev N y ∧ P y) :
  ∃ y, Ev (fun n => br (decide (h < (-1 : Int))) (some F) (br (decide (((c.2.2.2.2.1.length : Nat) : Int) ≤ h)) (some F) (br (decide ((0 : Int) ≤ h)) (br (decide (0 ≤ h)) ((w.2.2[h.toNat]?).bind fun e => br (!decide (e = (-1 : Int))) (some F) (N n)) none) (N n)))) y ∧ P y := by
 by_cases h1 : h < -1
 ·simp only [br_pos h1]; exact ⟨_, Ev.pure _, hF⟩
 by_cases h2 : ((c.2.2.2.2.1.length : Nat) : Int) ≤ h
 ·simp only [br_neg h1, br_pos h2]; exact ⟨_, Ev.pure _, hF⟩
 by_cases h3 : 0 ≤ h
 ·have g : w.2.2[h.toNat]? = some w.2.2[h.toNat] := List.getElem?_eq_getElem (by omega)
  by_cases h4 : w.2.2[h.toNat] = -1
  ·simp only [br_neg h1, br_neg h2, br_pos h3, g, Option.bind_some, nbr_pos h4]
   exact hN ⟨by omega, by omega⟩
  ·simp only [br_neg h1, br_neg h2, br_pos h3, g, Option.bind_some, nbr_neg h4]
   exact ⟨_, Ev.pure _, hF⟩
 ·simp only [br_neg h1, br_neg h2, br_neg h3]
  exact hN ⟨by omega, by omega⟩
theorem placedL4 (c : CellT) (w : Mo.StateT) (hwl : w.2.2.length = c.2.2.2.2.1.length) : ∃ y, Ev (fun n => Z44L4 n (((), ((), ((0 : Int), ()))), ((c, ()), ((w, ()), ())))) y ∧ ((y = .inl (((), ((), ())), ((c, ()), ((w, ()), ()))) ∧ HB c w.2.1.1 ∧ HB c w.2.1.2) ∨ y = .inr ((false, ()), ())) := by
 have e2 : Ev (fun n => Z44L4 n (((), ((), ((2 : Int), ()))), ((c, ()), ((w, ()), ())))) (.inl (((), ((), ())), ((c, ()), ((w, ()), ())))) := by
  refine Ev.of_eq 1 ?_
  simp (disch := omega) only [Z44L4Eq, br_neg]
  exact Ev.pure _
 have w1 : IntKind.i64.wrap ((0 : Int) + 1) = 1 := by rw [w64 (by omega) (by omega)]; rfl
 have w2 : IntKind.i64.wrap ((1 : Int) + 1) = 2 := by rw [w64 (by omega) (by omega)]; rfl
 obtain ⟨y1, e1, hy1⟩ := held_pick (w := w) hwl (h := w.2.1.2) (F := (.inr ((false, ()), ()) : ((Unit × (Unit × Unit)) × CW) ⊕ ((Bool × Unit) × Unit))) (N := fun n => Z44L4 n (((), ((), ((2 : Int), ()))), ((c, ()), ((w, ()), ())))) (P := fun y => (y = .inl (((), ((), ())), ((c, ()), ((w, ()), ()))) ∧ HB c w.2.1.2) ∨ y = .inr ((false, ()), ())) (.inr rfl) fun h => ⟨_, e2, .inl ⟨rfl, h⟩⟩
 have e1' : Ev (fun n => Z44L4 n (((), ((), ((1 : Int), ()))), ((c, ()), ((w, ()), ())))) y1 := by
  refine Ev.of_eq 1 ?_
  have t1 : (1 : Int) < 2 := by omega
  have t2 : (1 : Int) = 1 := rfl
  simp only [Z44L4Eq, br_pos t1, br_pos t2, w2]
  exact e1
 obtain ⟨y0, e0, hy0⟩ := held_pick (w := w) hwl (h := w.2.1.1) (F := (.inr ((false, ()), ()) : ((Unit × (Unit × Unit)) × CW) ⊕ ((Bool × Unit) × Unit))) (N := fun n => Z44L4 n (((), ((), ((1 : Int), ()))), ((c, ()), ((w, ()), ())))) (P := fun y => (y = .inl (((), ((), ())), ((c, ()), ((w, ()), ()))) ∧ HB c w.2.1.1 ∧ HB c w.2.1.2) ∨ y = .inr ((false, ()), ())) (.inr rfl) fun h => ⟨y1, e1', by
  rcases hy1 with ⟨k1, k2⟩ | k1
  ·exact .inl ⟨k1, h, k2⟩
  ·exact .inr k1⟩
 refine ⟨y0, Ev.of_eq 1 ?_, hy0⟩
 have t1 : (0 : Int) < 2 := by omega
 have t2 : ¬ (0 : Int) = 1 := by omega
 have t3 : (0 : Int) = 0 := rfl
 simp only [Z44L4Eq, br_pos t1, br_neg t2, br_pos t3, w1]
 exact e0
theorem placedEv (c : CellT) (w : Mo.StateT) (hl : w.2.2.length ≤ 8) : ∃ b, Ev (fun n => Z44 n c w) b ∧ (b = true → w.2.2.length = c.2.2.2.2.1.length ∧ (HB c w.2.1.1 ∧ HB c w.2.1.2) ∧ ∀ k ∈ w.2.2, -1 ≤ k ∧ k < (c.2.2.2.1.length : Int)) := by
 by_cases hwl : w.2.2.length = c.2.2.2.2.1.length
 rotate_left
 ·have h1 : ¬ ((w.2.2.length : Nat) : Int) = ((c.2.2.2.2.1.length : Nat) : Int) := by omega
  refine ⟨false, Ev.of_eq 1 ?_, fun e => by cases e⟩
  simp only [Z44Eq, nbr_neg h1]
  exact Ev.pure _
 have h1 : ((w.2.2.length : Nat) : Int) = ((c.2.2.2.2.1.length : Nat) : Int) := by omega
 obtain ⟨y, e, hy⟩ := placedL4 c w hwl
 obtain ⟨z, ez, hz⟩ := placedL10 c w hl w.2.2 0 rfl (Nat.zero_le _)
 have tail : ∃ b, Ev (fun n => (Z44L4 n (((), ((), ((0 : Int), ()))), ((c, ()), ((w, ()), ())))).bind fun l => (match l with | .inl y => (Z44L10 n (((), ((), ((0 : Int), ()))), y.2)).bind fun l => (match l with | .inl y => some true | .inr y => some y.1.1) | .inr y => some y.1.1)) b ∧ (b = true → w.2.2.length = c.2.2.2.2.1.length ∧ (HB c w.2.1.1 ∧ HB c w.2.1.2) ∧ ∀ k ∈ w.2.2, -1 ≤ k ∧ k < (c.2.2.2.1.length : Int)) := by
  rcases hy with ⟨rfl, h2⟩ | rfl
  ·rcases hz with ⟨rfl, h3⟩ | rfl
   ·exact ⟨true, Ev.bind e (Ev.bind ez (Ev.pure _)), fun _ => ⟨hwl, h2, h3⟩⟩
   ·exact ⟨false, Ev.bind e (Ev.bind ez (Ev.pure _)), fun e => by cases e⟩
  ·exact ⟨false, Ev.bind e (Ev.pure _), fun e => by cases e⟩
 by_cases h2 : 0 ≤ w.2.1.1
 ·by_cases h3 : w.2.1.1 = w.2.1.2
  ·refine ⟨false, Ev.of_eq 1 ?_, fun e => by cases e⟩
   simp only [Z44Eq, nbr_pos h1, br_pos h2, br_pos h3]
   exact Ev.pure _
  ·obtain ⟨b, hb, hbt⟩ := tail
   refine ⟨b, Ev.of_eq 1 ?_, hbt⟩
   simp only [Z44Eq, nbr_pos h1, br_pos h2, br_neg h3]
   exact hb
 ·obtain ⟨b, hb, hbt⟩ := tail
  refine ⟨b, Ev.of_eq 1 ?_, hbt⟩
  simp only [Z44Eq, nbr_pos h1, br_neg h2]
  exact hb
end Go.Rm
namespace Go.Rm
open Go Go.Am Go.Proofs Go.Hu Go.Mo
section
variable {c : CellT} {w : Mo.StateT} (hc : COk c) (hw : WOk c w)
include hc hw
theorem rrestL : ∀ (r : List Int) (i : Nat) (out : List BodyT), w.2.2.drop i = r → i ≤ w.2.2.length → out.length ≤ 1000 + i →
  Ev (fun n => Z45L18 n (((), ((), (out, (((i : Nat) : Int), ())))), ((c, ()), ((w, ()), ())))) (((), (out ++ resting c i r, ())), ((c, ()), ())) := by
 have hwl := hw.wlen
 have hpl := hc.partl
 intro r
 induction r with
 | nil =>
  intro i out h hi ho'
  have := gdrop_nil h
  have hlen : ¬ (((i : Nat) : Int) < ((c.2.2.2.2.1.length : Nat) : Int)) := by omega
  refine Ev.of_eq 1 ?_
  simp only [Z45L18Eq, br_neg hlen]
  exact (Ev.pure _).congr (by simp [resting])
 | cons k r ih =>
  intro i out h hi ho'
  obtain ⟨g1, g2, g3⟩ := gdrop h
  obtain ⟨k1, k2⟩ := hw.whr k (List.mem_of_getElem? g1)
  by_cases hk : 0 ≤ k
  ·have gp : c.2.2.2.2.1[i]? = some c.2.2.2.2.1[i] := List.getElem?_eq_getElem (by omega)
   have gq : c.2.2.2.1[k.toNat]? = some c.2.2.2.1[k.toNat] := List.getElem?_eq_getElem (by omega)
   obtain ⟨p1, p2⟩ := hc.part _ (List.mem_of_getElem? gp)
   obtain ⟨q1, q2⟩ := hc.place _ (List.mem_of_getElem? gq)
   have e1 := get_part gp
   have e2 : plcOf c k = c.2.2.2.1[k.toNat] := by unfold plcOf; rw [gq]; rfl
   have e := ih (i + 1) (out ++ [((3 : Int), (((i : Nat) : Int), ((0 : Int), outlAt c.2.2.2.2.1[i] (c.2.2.2.1[k.toNat]).2.1 (c.2.2.2.1[k.toNat]).2.2)))]) g2 (by omega) (by simp; omega)
   have hcap : (out.length + [((3 : Int), (((i : Nat) : Int), ((0 : Int), outlAt c.2.2.2.2.1[i] (c.2.2.2.1[k.toNat]).2.1 (c.2.2.2.1[k.toNat]).2.2)))].length) * 48 ≤ 140737488355328 := by simp only [List.length_cons, List.length_nil]; omega
   refine Ev.of_eq 1 ?_
   simp (disch := omega) only [Z45L18Eq, br_pos, Int.toNat_natCast, g1, gp, gq, Option.bind_some]
   refine Ev.bind (Ev.bind (laidEv q1 q2 (by omega) p2) (Ev.pure _)) ?_
   simp (disch := omega) only [wr1]
   refine e.congr ?_
   simp [resting, hk, e1, e2]
  ·have e := ih (i + 1) out g2 (by omega) (by omega)
   refine Ev.of_eq 1 ?_
   simp (disch := omega) only [Z45L18Eq, br_pos, br_neg, Int.toNat_natCast, g1, Option.bind_some, wr1]
   refine e.congr ?_
   simp [resting, hk]
theorem rfixL : ∀ (r : List (List Pt)) (i : Nat) (out : List BodyT), c.2.2.1.drop i = r → i ≤ c.2.2.1.length → out.length ≤ 10000 + i →
  Ev (fun n => Z45L24 n (((), (out, (((i : Nat) : Int), ()))), ((c, ()), ()))) ((out ++ fixed i r, ()), ()) := by
 have hfl := hc.fixl
 intro r
 induction r with
 | nil =>
  intro i out h hi ho'
  have := gdrop_nil h
  refine Ev.of_eq 1 ?_
  simp (disch := omega) only [Z45L24Eq, br_neg]
  exact (Ev.pure _).congr (by simp [fixed])
 | cons k r ih =>
  intro i out h hi ho'
  obtain ⟨g1, g2, g3⟩ := gdrop h
  have hcap : (out.length + [((4 : Int), (((i : Nat) : Int), ((0 : Int), k)))].length) * 48 ≤ 140737488355328 := by simp only [List.length_cons, List.length_nil]; omega
  refine Ev.of_eq 1 ?_
  simp (disch := omega) only [Z45L24Eq, br_pos, Int.toNat_natCast, g1, Option.bind_some, br_pos hcap, wr1]
  refine (ih (i + 1) _ g2 (by omega) (by simp; omega)).congr ?_
  simp [fixed]
end
set_option maxRecDepth 20000 in
set_option maxHeartbeats 2000000 in
theorem rbodiesEv {c : CellT} {w : Mo.StateT} (hc : COk c) (hw : WOk c w) : Ev (fun n => Z45 n c w) (bodies c w) := by
 have q0 := hw.q0 hc
 have q1 := hw.q1 hc
 have tail : ∀ (out : List BodyT), out.length ≤ 100 → out = arms6 c w ++ (held c c.1.1 w.1.1 0 w.2.1.1 ++ held c c.1.2 w.1.2 1 w.2.1.2) →
   Ev (fun n => (Z45L18 n (((), ((), (out, ((0 : Int), ())))), ((c, ()), ((w, ()), ())))).bind fun l598 => (Z45L24 n (((), (l598.1.2.1, ((0 : Int), ()))), l598.2)).bind fun l600 => some l600.1.1) (bodies c w) := fun out hl e => by
  have hwl := hw.wlen
  have hpl := hc.partl
  have hr := resting_len c w.2.2 0
  refine Ev.bind (rrestL hc hw w.2.2 0 out rfl (Nat.zero_le _) (by omega)) ?_
  refine Ev.bind (rfixL hc hw c.2.2.1 0 (out ++ resting c 0 w.2.2) rfl (Nat.zero_le _) (by rw [List.length_append]; omega)) ?_
  exact (Ev.pure _).congr (by rw [e]; simp [bodies])
 refine Ev.of_eq 1 ?_
 simp only [Z45Eq]
 refine Ev.bind (rlinksEv hc.arm0 q0) ?_
 simp (disch := omega) only [List.length_append, List.length_cons, List.length_nil, w64, br_T, br_pos]
 refine Ev.bind (rlinksEv hc.arm1 q1) ?_
 by_cases h0 : 0 ≤ w.2.1.1 <;> by_cases h1 : 0 ≤ w.2.1.2
 ·obtain ⟨p, g1, g2, g3, g4⟩ := heldOk hc hw 0 c.1.1 w.1.1 hc.arm0 q0 (h := w.2.1.1) (by have := hw.held0; omega)
  obtain ⟨p', k1, k2, k3, k4⟩ := heldOk hc hw 1 c.1.2 w.1.2 hc.arm1 q1 (h := w.2.1.2) (by have := hw.held1; omega)
  simp (disch := omega) only [br_pos, br_neg, g1, k1, Option.bind_some]
  refine Ev.bind (Ev.bind (rjptsEv hc.arm0 q0) (Ev.bind (rdirsEv c.1.1 q0) (Ev.bind g4 (Ev.bind (rjptsEv hc.arm1 q1) (Ev.bind (rdirsEv c.1.2 q1) (Ev.bind k4 (Ev.pure _))))))) ?_
  exact tail _ (by simp) (by rw [held_pos (by omega), held_pos (by omega), g2, k2]; rfl)
 ·obtain ⟨p, g1, g2, g3, g4⟩ := heldOk hc hw 0 c.1.1 w.1.1 hc.arm0 q0 (h := w.2.1.1) (by have := hw.held0; omega)
  simp (disch := omega) only [br_pos, br_neg, g1, Option.bind_some]
  refine Ev.bind (Ev.bind (rjptsEv hc.arm0 q0) (Ev.bind (rdirsEv c.1.1 q0) (Ev.bind g4 (Ev.pure _)))) ?_
  exact tail _ (by simp) (by rw [held_pos (by omega), held_neg (by omega), g2]; rfl)
 ·obtain ⟨p', k1, k2, k3, k4⟩ := heldOk hc hw 1 c.1.2 w.1.2 hc.arm1 q1 (h := w.2.1.2) (by have := hw.held1; omega)
  simp (disch := omega) only [br_pos, br_neg, k1, Option.bind_some]
  refine Ev.bind (Ev.bind (rjptsEv hc.arm1 q1) (Ev.bind (rdirsEv c.1.2 q1) (Ev.bind k4 (Ev.pure _)))) ?_
  exact tail _ (by simp) (by rw [held_neg (by omega), held_pos (by omega), k2]; rfl)
 ·simp (disch := omega) only [br_neg, Option.bind_some]
  exact tail _ (by simp) (by rw [held_neg (by omega), held_neg (by omega)]; rfl)
end Go.Rm
namespace Go.Rm
open Go Go.Am Go.Proofs Go.Hu Go.Mo
theorem may14Tot (x : Pt) : Tot fun n => Z46 n x := Tot.of_eq 1 (by
 simp only [Z46Eq]
 exact Tot.br (Tot.br (Tot.br (Tot.pure _) (Tot.pure _)) (Tot.pure _)) (Tot.pure _))
theorem right14L8 (L : List BodyT) (hL : L.length ≤ 1000) (i : Nat) (hi : i < L.length) (hp : (L[i]).2.2.2.length ≤ 1000) : ∀ (k j : Nat), j + k = (L[i]).2.2.2.length →
  ∃ y, Ev (fun n => Z30L8 n ((L, (((i : Nat) : Int), (((j : Nat) : Int), ()))), ())) y ∧ (y = .inl ((L, (((i : Nat) : Int), ())), ()) ∨ y = .inr ((false, ()), ())) := by
 have g : L[i]? = some L[i] := List.getElem?_eq_getElem hi
 intro k
 induction k with
 | zero =>
  intro j h
  have hn : ¬ ((j : Nat) : Int) < (((L[i]).2.2.2.length : Nat) : Int) := by omega
  refine ⟨_, Ev.of_eq 1 ?_, .inl rfl⟩
  simp (disch := omega) only [Z30L8Eq, br_pos, Int.toNat_natCast, g, Option.bind_some, br_neg hn]
  exact Ev.pure _
 | succ k ih =>
  intro j h
  obtain ⟨y, e, hy⟩ := ih (j + 1) (by omega)
  have g2 : (L[i]).2.2.2[j]? = some (L[i]).2.2.2[j] := List.getElem?_eq_getElem (by omega)
  have hn : ((j : Nat) : Int) < (((L[i]).2.2.2.length : Nat) : Int) := by omega
  obtain ⟨v, hv⟩ := may14Tot (L[i]).2.2.2[j]
  cases v with
  | false =>
   refine ⟨_, Ev.of_eq 1 ?_, .inr rfl⟩
   simp (disch := omega) only [Z30L8Eq, br_pos, Int.toNat_natCast, g, g2, Option.bind_some, br_pos hn]
   exact Ev.bind hv (Ev.pure _)
  | true =>
   refine ⟨y, Ev.of_eq 1 ?_, hy⟩
   simp (disch := omega) only [Z30L8Eq, br_pos, Int.toNat_natCast, g, g2, Option.bind_some, br_pos hn, wr1]
   refine Ev.bind hv ?_
   simp only [Bool.not_true, br_f]
   exact e
theorem right14L5 (L : List BodyT) (hL : L.length ≤ 1000) (hp : ∀ b ∈ L, b.2.2.2.length ≤ 1000) : ∀ (k i : Nat), i + k = L.length →
  ∃ y, Ev (fun n => Z30L5 n ((L, (((i : Nat) : Int), ())), ())) y ∧ (y = .inl ((), ()) ∨ y = .inr ((false, ()), ())) := by
 intro k
 induction k with
 | zero =>
  intro i h
  refine ⟨_, Ev.of_eq 1 ?_, .inl rfl⟩
  simp (disch := omega) only [Z30L5Eq, br_neg]
  exact Ev.pure _
 | succ k ih =>
  intro i h
  obtain ⟨y, e, hy⟩ := ih (i + 1) (by omega)
  have hi : i < L.length := by omega
  obtain ⟨z, ez, hz⟩ := right14L8 L hL i hi (hp _ (List.getElem_mem hi)) (L[i]).2.2.2.length 0 (by omega)
  rcases hz with rfl | rfl
  ·refine ⟨y, Ev.of_eq 1 ?_, hy⟩
   simp (disch := omega) only [Z30L5Eq, br_pos]
   refine Ev.bind ez ?_
   simp (disch := omega) only [wr1]
   exact e
  ·refine ⟨_, Ev.of_eq 1 ?_, .inr rfl⟩
   simp (disch := omega) only [Z30L5Eq, br_pos]
   exact Ev.bind ez (Ev.pure _)
theorem stateEv {c : CellT} (hc : COk c) (w : Mo.StateT) (hl : w.2.2.length ≤ 8) : ∃ b, Ev (fun n => Z30 n c w) b ∧ (b = true → WOk c w) := by
 have f0 := rlimEv c.1.1 w.1.1
 have f1 := rlimEv c.1.2 w.1.2
 obtain ⟨b, hb, hbt⟩ := placedEv c w hl
 cases h0 : inLim c.1.1 w.1.1 with
 | false =>
  rw [h0] at f0
  refine ⟨false, Ev.of_eq 1 ?_, fun e => by cases e⟩
  simp only [Z30Eq]
  exact Ev.bind f0 (Ev.pure _)
 | true =>
 rw [h0] at f0
 cases h1 : inLim c.1.2 w.1.2 with
 | false =>
  rw [h1] at f1
  refine ⟨false, Ev.of_eq 1 ?_, fun e => by cases e⟩
  simp only [Z30Eq]
  refine Ev.bind f0 ?_
  simp only [Bool.not_true, br_f]
  exact Ev.bind f1 (Ev.pure _)
 | true =>
 rw [h1] at f1
 cases b with
 | false =>
  refine ⟨false, Ev.of_eq 1 ?_, fun e => by cases e⟩
  simp only [Z30Eq]
  refine Ev.bind f0 ?_
  simp only [Bool.not_true, br_f]
  refine Ev.bind f1 ?_
  simp only [Bool.not_true, br_f]
  exact Ev.bind hb (Ev.pure _)
 | true =>
  obtain ⟨k1, ⟨k2, k3⟩, k4⟩ := hbt rfl
  have hw : WOk c w := ⟨h0, h1, k1, k4, k2, k3⟩
  have hbl := bodies_len hc hw
  obtain ⟨z, ez, hz⟩ := right14L5 (bodies c w) (by omega) (fun b hb => by have := (bodies_ok hc hw b hb).1; omega) (bodies c w).length 0 (by omega)
  have start : ∀ {res : Bool}, Ev (fun n => (Z45 n c w).bind fun x => (Z30L5 n ((x, ((0 : Int), ())), ())).bind fun l => (match l with | .inl _ => some true | .inr y => some y.1.1)) res → Ev (fun n => Z30 n c w) res := fun h => by
   refine Ev.of_eq 1 ?_
   simp only [Z30Eq]
   refine Ev.bind f0 ?_
   simp only [Bool.not_true, br_f]
   refine Ev.bind f1 ?_
   simp only [Bool.not_true, br_f]
   refine Ev.bind hb ?_
   simp only [Bool.not_true, br_f]
   exact h
  rcases hz with rfl | rfl
  ·exact ⟨true, start (Ev.bind (rbodiesEv hc hw) (Ev.bind ez (Ev.pure _))), fun _ => hw⟩
  ·exact ⟨false, start (Ev.bind (rbodiesEv hc hw) (Ev.bind ez (Ev.pure _))), fun e => by cases e⟩
theorem fitsEv (c : CellT) (w : Mo.StateT) : ∃ b, Ev (fun n => Z10 n c w) b ∧ (b = true → COk c ∧ WOk c w) := by
 by_cases h1 : (16 : Int) < ((c.2.2.1.length : Nat) : Int)
 ·refine ⟨false, Ev.of_eq 1 ?_, fun e => by cases e⟩
  simp only [Z10Eq, br_pos h1]; exact Ev.pure _
 by_cases h2 : (16 : Int) < ((c.2.2.2.2.2.2.2.2.2.1.length : Nat) : Int)
 ·refine ⟨false, Ev.of_eq 1 ?_, fun e => by cases e⟩
  simp only [Z10Eq, br_neg h1, br_pos h2]; exact Ev.pure _
 by_cases h3 : (16 : Int) < ((c.2.2.2.1.length : Nat) : Int)
 ·refine ⟨false, Ev.of_eq 1 ?_, fun e => by cases e⟩
  simp only [Z10Eq, br_neg h1, br_neg h2, br_pos h3]; exact Ev.pure _
 by_cases h4 : (8 : Int) < ((c.2.2.2.2.1.length : Nat) : Int)
 ·refine ⟨false, Ev.of_eq 1 ?_, fun e => by cases e⟩
  simp only [Z10Eq, br_neg h1, br_neg h2, br_neg h3, br_pos h4]; exact Ev.pure _
 by_cases h5 : (16 : Int) < ((c.2.2.2.2.2.1.length : Nat) : Int)
 ·refine ⟨false, Ev.of_eq 1 ?_, fun e => by cases e⟩
  simp only [Z10Eq, br_neg h1, br_neg h2, br_neg h3, br_neg h4, br_pos h5]; exact Ev.pure _
 by_cases h6 : (8 : Int) < ((w.2.2.length : Nat) : Int)
 ·refine ⟨false, Ev.of_eq 1 ?_, fun e => by cases e⟩
  simp only [Z10Eq, br_neg h1, br_neg h2, br_neg h3, br_neg h4, br_neg h5, br_pos h6]; exact Ev.pure _
 obtain ⟨b, hb, hbt⟩ := cellEv c ⟨by omega, by omega, by omega, by omega, by omega⟩
 cases b with
 | false =>
  refine ⟨false, Ev.of_eq 1 ?_, fun e => by cases e⟩
  simp only [Z10Eq, br_neg h1, br_neg h2, br_neg h3, br_neg h4, br_neg h5, br_neg h6]
  exact Ev.bind hb (Ev.pure _)
 | true =>
  have hc := hbt rfl
  obtain ⟨v, hv, hvt⟩ := stateEv hc w (by omega)
  refine ⟨v, Ev.of_eq 1 ?_, fun e => ⟨hc, hvt e⟩⟩
  simp only [Z10Eq, br_neg h1, br_neg h2, br_neg h3, br_neg h4, br_neg h5, br_neg h6]
  refine Ev.bind hb ?_
  simp only [br_t]
  exact Ev.bind hv (Ev.pure _)
end Go.Rm
namespace Go.Rm
open Go Go.Am Go.Proofs Go.Hu Go.Mo
theorem tmB {x k : Int} (h : 0 ≤ x) (hk : 0 < k) : 0 ≤ x.tmod k ∧ x.tmod k < k := by
 rw [Int.tmod_eq_emod_of_nonneg h]; exact ⟨Int.emod_nonneg _ (by omega), Int.emod_lt_of_pos _ hk⟩
theorem who01 {x : Int} (h : 0 ≤ x) : x.tmod 2 = 0 ∨ x.tmod 2 = 1 := by
 have := tmB h (show (0 : Int) < 2 by decide); omega
end Go.Rm
namespace Go.Rm
open Go Go.Am Go.Proofs Go.Hu Go.Mo
theorem idxN_first {q : J3} : ∀ (l : List NodeT) (i k : Nat) (n : NodeT), l[i]? = some n → n.1 = q → (∀ (j : Nat) (m : NodeT), j < i → l[j]? = some m → m.1 ≠ q) → idxN q k l = ((k + i : Nat) : Int)
 | [], i, k, n, h, _, _ => by simp at h
 | x :: l, 0, k, n, h, e, _ => by
  simp at h; subst h
  unfold idxN
  rw [if_pos e]; rfl
 | x :: l, i + 1, k, n, h, e, hd => by
  unfold idxN
  rw [if_neg (hd 0 x (by omega) rfl), idxN_first l i (k + 1) n (by simpa using h) e (fun j m hj hm => hd (j + 1) m (by omega) (by simpa using hm))]
  congr 1; omega
theorem node_lim {c : CellT} {w : Mo.StateT} {a : Int} (h0 : inLim (armOf c a) (conf w a) = true) {l : List NodeT} (hG : Mo.Good c w a l) : ∀ (i : Nat) (n : NodeT), l[i]? = some n → inLim (armOf c a) n.1 = true := by
 intro i n hi
 rcases Nat.eq_zero_or_pos i with h | h
 ·subst h
  rw [hG.start] at hi; cases hi; exact h0
 ·obtain ⟨p, m, x, _, _, _, _, e5, _⟩ := hG.node i n hi h
  have := step_lim (a := armOf c a) (q := m.1) (j := x.1) (b := x.2) (by rw [e5.1])
  rwa [e5.1] at this
theorem conf_lim {c : CellT} {w : Mo.StateT} (hw : WOk c w) {a : Int} (ha : a = 0 ∨ a = 1) : inLim (armOf c a) (conf w a) = true := by
 rcases ha with rfl | rfl
 ·exact hw.lim0
 ·exact hw.lim1
end Go.Rm
namespace Go.Rm
open Go Go.Am Go.Proofs Go.Hu Go.Mo
abbrev sixA (a : Int) : List MoveT := six.map fun x => (a, x)
theorem sixA_get (a : Int) {k : Nat} {x : Int × Int} {r : List (Int × Int)} (h : six.drop k = x :: r) : (sixA a)[k]? = some (a, x) ∧ six.drop (k + 1) = r ∧ k < (sixA a).length ∧ x ∈ six := by
 obtain ⟨h1, h2, h3⟩ := gdrop h
 exact ⟨by simp [sixA, h1], h2, by simpa [sixA] using h3, List.mem_of_getElem? h1⟩
section
variable {c : CellT} {w : Mo.StateT} (hc : COk c) (hw : WOk c w) {a : Int} (ha : a = 0 ∨ a = 1) {l : List NodeT} (hl : l.length ≤ 1000) (hlim : ∀ n ∈ l, inLim (armOf c a) n.1 = true)
include hc hw ha hl hlim in
include hc hw ha hl hlim in
end
end Go.Rm
namespace Go.Mo
open Go.Hu
def deepF (out : List Int) (n : NodeT) : Int := if n.2.1 < 0 then 0 else if (out.length : Int) ≤ n.2.1 then 0 else (out[n.2.1.toNat]?).getD 0 + 1
def deepG : List NodeT → List Int → List Int
 | [], out => out
 | n :: r, out => deepG r (out ++ [deepF out n])
theorem deepG_ext : ∀ (r : List NodeT) (out : List Int), ∃ t, deepG r out = out ++ t ∧ t.length = r.length
 | [], out => ⟨[], by simp [deepG], rfl⟩
 | n :: r, out => by
  obtain ⟨t, h, h2⟩ := deepG_ext r (out ++ [deepF out n])
  exact ⟨deepF out n :: t, by unfold deepG; rw [h, List.append_assoc]; rfl, by simp [h2]⟩
def dep (l : List NodeT) (i : Nat) : Int := ((deepG l [])[i]?).getD 0
theorem deep_len (l : List NodeT) : (deepG l []).length = l.length := by
 obtain ⟨t, h, h2⟩ := deepG_ext l []
 rw [h]; simpa using h2
theorem deepG_append : ∀ (a b : List NodeT) (out : List Int), deepG (a ++ b) out = deepG b (deepG a out)
 | [], b, out => rfl
 | n :: a, b, out => by simp only [List.cons_append, deepG]; exact deepG_append a b _
theorem dep_get {l : List NodeT} {i : Nat} (h : i < l.length) : (deepG l [])[i]? = some (dep l i) := by
 have : i < (deepG l []).length := by rw [deep_len]; exact h
 unfold dep
 rw [List.getElem?_eq_getElem this]; rfl
theorem dep_eq {l : List NodeT} {i : Nat} {n : NodeT} (hi : l[i]? = some n) : dep l i = deepF (deepG (l.take i) []) n := by
 have hlt := (List.getElem?_eq_some_iff.1 hi).1
 have e : l = l.take i ++ n :: l.drop (i + 1) := by
  have := (List.getElem?_eq_some_iff.1 hi).2
  rw [← this, List.getElem_cons_drop, List.take_append_drop]
 have h1 : deepG l [] = deepG (l.drop (i + 1)) (deepG (l.take i) [] ++ [deepF (deepG (l.take i) []) n]) := by
  conv => lhs; rw [e]
  rw [deepG_append]; rfl
 obtain ⟨t, h2, _⟩ := deepG_ext (l.drop (i + 1)) (deepG (l.take i) [] ++ [deepF (deepG (l.take i) []) n])
 unfold dep
 rw [h1, h2]
 have hlen : (deepG (l.take i) []).length = i := by rw [deep_len, List.length_take]; omega
 rw [List.append_assoc, List.getElem?_append_right (by omega), hlen, Nat.sub_self]
 rfl
theorem dep_take {l : List NodeT} {i p : Nat} (hp : p < i) (hi : i ≤ l.length) : (deepG (l.take i) [])[p]? = some (dep l p) := by
 obtain ⟨t, h2, _⟩ := deepG_ext (l.drop i) (deepG (l.take i) [])
 rw [← deepG_append, List.take_append_drop] at h2
 have hlen : (deepG (l.take i) []).length = i := by rw [deep_len, List.length_take]; omega
 have := dep_get (l := l) (i := p) (by omega)
 rw [h2, List.getElem?_append_left (by omega)] at this
 exact this
variable {c : CellT} {w : StateT} {a : Int}
theorem dep_zero {l : List NodeT} (h : Good c w a l) : dep l 0 = 0 := by
 rw [dep_eq h.start]; rfl
theorem dep_succ {l : List NodeT} (h : Good c w a l) {i : Nat} {n : NodeT} (hi : l[i]? = some n) (h0 : 0 < i) : ∃ p : Nat, n.2.1 = (p : Int) ∧ p < i ∧ dep l i = dep l p + 1 := by
 obtain ⟨p, m, x, e1, e2, e3, e4, e5, e6⟩ := h.node i n hi h0
 have hlt := (List.getElem?_eq_some_iff.1 hi).1
 refine ⟨p, by rw [e3], e2, ?_⟩
 rw [dep_eq hi]
 unfold deepF
 have hlen : (deepG (l.take i) []).length = i := by rw [deep_len, List.length_take]; omega
 have e : n.2.1 = (p : Int) := by rw [e3]
 rw [e, if_neg (by omega), hlen, if_neg (by omega), Int.toNat_natCast, dep_take e2 (by omega)]
 rfl
theorem dep_bd {l : List NodeT} (h : Good c w a l) : ∀ (i : Nat), i < l.length → 0 ≤ dep l i ∧ dep l i ≤ (i : Int) := by
 intro i
 induction i using Nat.strongRecOn with
 | ind i ih =>
  intro hi
  rcases Nat.eq_zero_or_pos i with h0 | h0
  ·subst h0; rw [dep_zero h]; omega
  ·obtain ⟨p, _, h2, h3⟩ := dep_succ h (List.getElem?_eq_getElem hi) h0
   have := ih p h2 (by omega)
   omega
theorem dep_mono {l : List NodeT} (h : Good c w a l) : ∀ (j i : Nat), i ≤ j → j < l.length → dep l i ≤ dep l j := by
 intro j
 induction j using Nat.strongRecOn with
 | ind j ih =>
  intro i hij hj
  rcases Nat.eq_zero_or_pos i with h0 | h0
  ·subst h0; rw [dep_zero h]; exact (dep_bd h j hj).1
  ·obtain ⟨p, e1, h2, h3⟩ := dep_succ h (List.getElem?_eq_getElem (show i < l.length by omega)) h0
   obtain ⟨q, f1, g2, g3⟩ := dep_succ h (List.getElem?_eq_getElem hj) (by omega)
   have hm := h.mono i j _ _ (List.getElem?_eq_getElem (show i < l.length by omega)) (List.getElem?_eq_getElem hj) hij
   have := ih q g2 p (by omega) (by omega)
   omega
theorem dep_short {most : Int} {l : List NodeT} {b : Bool} (E : Explored c w a most l b) {i t : Nat} {n m : NodeT} (hi : l[i]? = some n) (ht : l[t]? = some m) {x : Int × Int} (hx : x ∈ six) (hL : Leads c w a n.1 x m.1) : dep l t ≤ dep l i + 1 := by
 have hs := E.short hi ht hx hL
 have hil := (List.getElem?_eq_some_iff.1 hi).1
 rcases Nat.eq_zero_or_pos t with h0 | h0
 ·subst h0; rw [dep_zero E.good]; have := (dep_bd E.good i hil).1; omega
 ·obtain ⟨p, e1, h2, h3⟩ := dep_succ E.good ht h0
  have := dep_mono E.good i p (by omega) hil
  omega
end Go.Mo
namespace Go.Rm
open Go Go.Am Go.Proofs Go.Hu Go.Mo
theorem deepL3 (l : List NodeT) (hl : l.length ≤ 1000) : ∀ (r : List NodeT) (i : Nat) (out : List Int), l.drop i = r → i ≤ l.length → out.length = i → (∀ x ∈ out, 0 ≤ x ∧ x ≤ (i : Int)) →
  Ev (fun n => Z24L3 n ((l, (out, ((i : Int), ()))), ())) ((deepG r out, ()), ())
 | [], i, out, h, hi, ho, hb => by
  have := gdrop_nil h
  refine Ev.of_eq 1 ?_
  simp (disch := omega) only [Z24L3Eq, br_neg]
  exact Ev.pure _
 | x :: r, i, out, h, hi, ho, hb => by
  obtain ⟨g1, g2, g3⟩ := gdrop h
  have hF : 0 ≤ deepF out x ∧ deepF out x ≤ (i : Int) + 1 := by
   unfold deepF
   split
   ·omega
   ·split
    ·omega
    ·cases h1 : out[x.2.1.toNat]? with
     | none => simp; omega
     | some v =>
      have := hb v (List.mem_of_getElem? h1)
      simp only [Option.getD_some]; omega
  have ih := deepL3 l hl r (i + 1) (out ++ [deepF out x]) g2 (by omega) (by simp [ho]) (fun y hy => by
   rcases List.mem_append.1 hy with h | h
   ·have := hb y h; omega
   ·simp at h; subst h; omega)
  have hcap : ∀ v : Int, (out.length + [v].length) * 8 ≤ 140737488355328 := fun v => by simp only [List.length_cons, List.length_nil]; omega
  refine Ev.of_eq 1 ?_
  simp (disch := omega) only [Z24L3Eq, br_pos, Int.toNat_natCast, g1, Option.bind_some]
  refine Ev.bind (x := ((l, (out ++ [deepF out x], ((i : Int), ()))), ())) ?_ ?_
  ·unfold deepF
   by_cases h1 : x.2.1 < 0
   ·simp only [br_pos h1, if_pos h1, br_pos (hcap _)]; exact Ev.pure _
   ·by_cases h2 : (i : Int) ≤ x.2.1
    ·have h2' : (out.length : Int) ≤ x.2.1 := by omega
     simp only [br_neg h1, if_neg h1, br_pos h2, if_pos h2', br_pos (hcap _)]; exact Ev.pure _
    ·have h2' : ¬ (out.length : Int) ≤ x.2.1 := by omega
     have h3 : 0 ≤ x.2.1 := by omega
     have h4 : out[x.2.1.toNat]? = some out[x.2.1.toNat] := List.getElem?_eq_getElem (by omega)
     have h5 := hb _ (List.mem_of_getElem? h4)
     simp only [br_neg h1, if_neg h1, br_neg h2, if_neg h2', br_pos h3, h4, Option.bind_some, Option.getD_some]
     rw [w64 (by omega) (by omega)]
     simp only [br_pos (hcap _)]
     exact Ev.pure _
  ·simp (disch := omega) only [wr1]
   exact ih
theorem deepEv (l : List NodeT) (hl : l.length ≤ 1000) : Ev (fun n => Z24 n l) (deepG l []) := by
 refine Ev.of_eq 1 ?_
 simp only [Z24Eq]
 refine Ev.bind (deepL3 l hl l 0 [] rfl (Nat.zero_le _) rfl (fun x hx => by simp at hx)) ?_
 exact Ev.pure _
theorem good_back {c : CellT} {w : Mo.StateT} {a : Int} {l : List NodeT} (h : Mo.Good c w a l) : Back l := by
 intro i n hi
 rcases Nat.eq_zero_or_pos i with h0 | h0
 ·subst h0; rw [h.start] at hi; cases hi; show (-1 : Int) < _; omega
 ·obtain ⟨p, e, h2, _⟩ := dep_succ h hi h0
  omega
theorem path_len {c : CellT} {w : Mo.StateT} {a : Int} {l : List NodeT} (h : Mo.Good c w a l) : ∀ (k i : Nat), i ≤ k → i < l.length → ((pathR l k i).length : Int) = dep l i
 | 0, i, hk, hi => by
  obtain rfl : i = 0 := by omega
  rw [dep_zero h]; rfl
 | k + 1, i, hk, hi => by
  rcases Nat.eq_zero_or_pos i with h0 | h0
  ·subst h0; rw [dep_zero h]; rfl
  ·have g := List.getElem?_eq_getElem hi
   obtain ⟨p, e, h2, h3⟩ := dep_succ h g h0
   have ih := path_len h k p (by omega) (by omega)
   unfold pathR
   rw [if_pos (by omega), Int.toNat_natCast, g]
   simp only [e]
   rw [h3, List.length_cons]; omega
section
variable {c : CellT} {w : Mo.StateT} (hc : COk c) (hw : WOk c w) {a : Int} (ha : a = 0 ∨ a = 1) {most : Int} {l : List NodeT} {b : Bool} (E : Explored c w a most l b) (hl : l.length ≤ 1000)
abbrev SS (up : Bool) (a : Int) (l : List NodeT) (i k : Int) (w : Mo.StateT) (c : CellT) : (Unit × (Bool × (Unit × (Int × (List NodeT × (List Int × (List MoveT × (Int × (Int × Unit))))))))) × (Unit × ((Mo.StateT × Unit) × ((CellT × Unit) × Unit))) :=
 (((), (up, ((), (a, (l, (deepG l [], (sixA a, (i, (k, ()))))))))), ((), ((w, ()), ((c, ()), ()))))
abbrev SH (up : Bool) (a : Int) (l : List NodeT) (i : Int) (w : Mo.StateT) (c : CellT) : (Unit × (Bool × (Unit × (Int × (List NodeT × (List Int × (List MoveT × (Int × Unit)))))))) × (Unit × ((Mo.StateT × Unit) × ((CellT × Unit) × Unit))) :=
 (((), (up, ((), (a, (l, (deepG l [], (sixA a, (i, ())))))))), ((), ((w, ()), ((c, ()), ()))))
include hc hw ha E hl in
theorem shortL15 (up : Bool) {i : Nat} {n0 : NodeT} (hi : l[i]? = some n0) : ∀ (r : List (Int × Int)) (k : Nat), six.drop k = r → k ≤ 6 →
  Ev (fun n => Z6L15 n (SS up a l i k w c)) (.inl (SH up a l i w c))
 | [], k, h, hk => by
  have := gdrop_nil h
  have h6 : (sixA a).length = 6 := rfl
  have h6' : six.length = 6 := rfl
  refine Ev.of_eq 1 ?_
  simp (disch := omega) only [Z6L15Eq, br_neg]
  exact Ev.pure _
 | x :: r, k, h, hk => by
  obtain ⟨g1, g2, g3, g4⟩ := sixA_get a h
  have h6 : (sixA a).length = 6 := rfl
  have hq := node_lim (conf_lim hw ha) E.good i n0 hi
  have s := rstepEv (armOf c a) ((arm_ok hc a).qbd hq) x.1 x.2
  have f := freeEv hc (setQ_ok hw ha hq) (a, x)
  have wi := withEv w ha n0.1
  have hh := fun q => hasEv l (by omega) q
  have hil := (List.getElem?_eq_some_iff.1 hi).1
  have di := dep_get hil
  have bi := dep_bd E.good i hil
  have ih := shortL15 up hi r (k + 1) g2 (by omega)
  have wd : IntKind.i64.wrap (dep l i + 1) = dep l i + 1 := w64 (by omega) (by omega)
  have body : ∀ {A : Nat → Option (((Unit × (Bool × (Unit × (Int × (List NodeT × (List Int × (List MoveT × (Int × Unit)))))))) × (Unit × ((Mo.StateT × Unit) × ((CellT × Unit) × Unit)))) ⊕ ((Bool × Unit) × Unit))},
    (∀ n, A n = (Z25 n (armOf c a) n0.1 x.1 x.2).bind fun x1028 => (Z18 n l x1028.1).bind fun x1029 => (br x1028.2 (br (decide ((0 : Int) ≤ x1029)) (br (decide (0 ≤ x1029)) (((deepG l [])[(x1029).toNat]?).bind fun e1030 => (br (decide ((IntKind.i64.wrap (dep l i + (1 : Int))) < e1030)) ((Z21 n w a n0.1).bind fun x1033 => (Z20 n c x1033 (a, x)).bind fun x1035 => (br x1035 (some (.inr (((false, ()), ())))) (Z6L15 n (SS up a l i ((k + 1 : Nat) : Int) w c)))) (Z6L15 n (SS up a l i ((k + 1 : Nat) : Int) w c)))) none) (Z6L15 n (SS up a l i ((k + 1 : Nat) : Int) w c))) (Z6L15 n (SS up a l i ((k + 1 : Nat) : Int) w c)))) →
    Ev A (.inl (SH up a l i w c)) := fun {A} hA => by
   have e : A = _ := funext hA
   rw [e]
   refine Ev.bind s ?_
   refine Ev.bind (hh _) ?_
   cases h1 : (stepJ (armOf c a) n0.1 x.1 x.2).2 with
   | false => exact Ev.br_false rfl ih
   | true =>
    refine Ev.br_true rfl ?_
    cases h2 : hasN l (stepJ (armOf c a) n0.1 x.1 x.2).1 with
    | false => exact Ev.ite_neg (by rw [idxN_not _ _ _ h2]; omega) ih
    | true =>
     obtain ⟨t, m, t1, t2⟩ := hasN_iff.1 h2
     have hix := idxN_first l t 0 m t1 t2 (fun j m' hj hm he => by
      have := E.good.inj hm t1 (he.trans t2.symm); omega)
     rw [Nat.zero_add] at hix
     rw [hix]
     have htl := (List.getElem?_eq_some_iff.1 t1).1
     refine Ev.ite_pos (by omega) (Ev.ite_pos (by omega) ?_)
     refine Ev.get (a := dep l t) (by rw [Int.toNat_natCast]; exact dep_get htl) ?_
     rw [wd]
     by_cases h3 : dep l i + 1 < dep l t
     ·refine Ev.ite_pos h3 ?_
      refine Ev.bind wi ?_
      refine Ev.bind f ?_
      cases h4 : free c (setQ w a n0.1) (a, x) with
      | false => exact Ev.br_false rfl ih
      | true =>
       exfalso
       have := dep_short E hi t1 g4 (x := x) ⟨Prod.ext t2.symm h1, h4⟩
       omega
     ·exact Ev.ite_neg h3 ih
  refine Ev.of_eq 1 ?_
  rcases ha with rfl | rfl
  ·simp (disch := omega) only [Z6L15Eq, br_pos, br_neg, Int.toNat_natCast, hi, di, g1, Option.bind_some, wr1]
   exact body fun n => rfl
  ·simp (disch := omega) only [Z6L15Eq, br_pos, br_neg, Int.toNat_natCast, hi, di, g1, Option.bind_some, wr1]
   exact body fun n => rfl
include hc hw ha E hl in
theorem shortL10 (up : Bool) : ∀ (k i : Nat), i + k = l.length →
  Ev (fun n => Z6L10 n (SH up a l i w c)) (.inl ((up, (l, ())), ()))
 | 0, i, hk => by
  refine Ev.of_eq 1 ?_
  simp (disch := omega) only [Z6L10Eq, br_neg]
  exact Ev.pure _
 | k + 1, i, hk => by
  have hil : i < l.length := by omega
  have g := List.getElem?_eq_getElem hil
  have l15 := shortL15 hc hw ha E hl up g six 0 rfl (by omega)
  have ih := shortL10 up k (i + 1) (by omega)
  have di := dep_get hil
  have hp := pathEv l (by omega) (good_back E.good) i (by omega)
  have hpl : ((pathTo l i).length : Int) = dep l i := by
   unfold pathTo; rw [List.length_reverse]; exact path_len E.good _ _ (by omega) hil
  have rest : ∀ {A : Nat → Option (((Bool × (List NodeT × Unit)) × Unit) ⊕ ((Bool × Unit) × Unit))},
    (∀ n, A n = (Z16 n l i).bind fun x1012 => (br (!decide (((x1012).length : Int) = dep l i)) (some (.inr (((false, ()), ())))) ((Z6L15 n (SS up a l i ((0 : Nat) : Int) w c)).bind fun l1036 => (match l1036 with | .inl y1037 => Z6L10 n (((), (y1037.1.2.1, ((), (y1037.1.2.2.2.1, (y1037.1.2.2.2.2.1, (y1037.1.2.2.2.2.2.1, (y1037.1.2.2.2.2.2.2.1, ((IntKind.i64.wrap (y1037.1.2.2.2.2.2.2.2.1 + (1 : Int))), ())))))))), y1037.2) | .inr y1038 => some (.inr (y1038)))))) →
    Ev A (.inl ((up, (l, ())), ())) := fun {A} hA => by
   have e : A = _ := funext hA
   rw [e]
   refine Ev.bind hp ?_
   refine Ev.nite_pos hpl ?_
   refine Ev.bind l15 ?_
   simp (disch := omega) only [wr1]
   exact ih
  refine Ev.of_eq 1 ?_
  rcases Nat.eq_zero_or_pos i with h0 | h0
  ·subst h0
   simp (disch := omega) only [Z6L10Eq, br_pos, br_neg, Int.toNat_natCast, di, Option.bind_some]
   exact rest fun n => rfl
  ·have dm := dep_get (l := l) (i := i - 1) (by omega)
   have hm := dep_mono E.good i (i - 1) (by omega) hil
   simp (disch := omega) only [Z6L10Eq, br_pos, br_neg, Int.toNat_natCast, di, Option.bind_some, wm1, tonat_sub1, dm]
   exact rest fun n => rfl
end
theorem shortestEv {c : CellT} {w : Mo.StateT} {x y z : Int} (hx : 0 ≤ x ∧ x < 256) (hy : 0 ≤ y ∧ y < 256) (hz : 0 ≤ z ∧ z < 256) :
  Ev (fun n => (Z9 n).bind fun x998 => (Z10 n c w).bind fun x999 => (br (!x999) (some x998) ((Z11 n c w z).bind fun x1000 => (Z12 n x1000 w (((IntKind.i64.wrap x)).tmod (2 : Int)) (IntKind.i64.wrap ((((IntKind.i64.wrap y)).tmod (24 : Int)) + (1 : Int)))).bind fun x1001 => (Z24 n x1001.1).bind fun x1008 => (Z23 n (((IntKind.i64.wrap x)).tmod (2 : Int))).bind fun x1009 => (Z6L10 n (((), (x998, ((), ((((IntKind.i64.wrap x)).tmod (2 : Int)), (x1001.1, (x1008, (x1009, ((0 : Int), ())))))))), ((), ((w, ()), ((x1000, ()), ()))))).bind fun l1044 => (match l1044 with | .inl y1045 => (br y1045.1.1 (some (decide ((0 : Int) < ((y1045.1.2.1).length : Int)))) (some false)) | .inr y1046 => some y1046.1.1)))) true := by
 have w1 : IntKind.i64.wrap x = x := w64 (by omega) (by omega)
 have w2 : IntKind.i64.wrap y = y := w64 (by omega) (by omega)
 have b2 := tmB hy.1 (show (0 : Int) < 24 by decide)
 have w4 : IntKind.i64.wrap (y.tmod 24 + 1) = y.tmod 24 + 1 := w64 (by omega) (by omega)
 have ha := who01 hx.1
 simp only [w1, w2, w4]
 generalize hM : y.tmod 24 + 1 = M at *
 generalize hA : x.tmod 2 = A at *
 refine Ev.bind headEv ?_
 obtain ⟨b, f1, f2⟩ := fitsEv c w
 refine Ev.bind f1 ?_
 cases b with
 | false => exact Ev.pure _
 | true =>
  obtain ⟨hc', hw'⟩ := f2 rfl
  refine Ev.br_false rfl ?_
  refine Ev.bind (narrowEv hc' hw' hz) ?_
  obtain ⟨hc, hw⟩ := narrow_ok hc' hw' (x := z) hz.1
  generalize narrow c w z = d at *
  refine Ev.bind (exploreEv hc hw ha (by omega)) ?_
  have E := explored d w A (most := M) (by omega)
  generalize explore d w A M = L at *
  obtain ⟨e1, e2⟩ := E.len
  refine Ev.bind (deepEv L.1 (by omega)) ?_
  refine Ev.bind (sixEv A) ?_
  refine Ev.bind (shortL10 hc hw ha E (by omega) true L.1.length 0 (by omega)) ?_
  refine Ev.br_true rfl ?_
  exact (Ev.pure _).congr (by rw [decide_eq_true_eq]; simp only; omega)
end Go.Rm
