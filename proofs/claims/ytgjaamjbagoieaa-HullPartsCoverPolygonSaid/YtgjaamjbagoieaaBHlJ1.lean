import Derived.Test.YtgjaamjbagoieaaBHlAdd
import Derived.Test.YtgjaamjbagoieaaBHuJ14
set_option linter.unusedVariables false
set_option linter.unusedSimpArgs false
set_option linter.unnecessarySimpa false
/-
  HULL: the validity test, told: what it takes is simple and runs to the left.
-/
namespace Go.Hl
open Go Go.Am Go.Proofs Go.Hu

theorem TotP.mono {α : Type} {P Q : α → Prop} {f : Nat → Option α} (h : TotP P f) (k : ∀ x, P x → Q x) : TotP Q f := by
  obtain ⟨x, h1, h2⟩ := h
  exact ⟨x, k x h1, h2⟩
theorem TotP.ev {α : Type} {f : Nat → Option α} {x : α} (h : Ev f x) : TotP (fun y => y = x) f := ⟨x, rfl, h⟩
theorem cutP {a b c d : Pt} (ha : Bd a) (hb : Bd b) (hc : Bd c) (hd : Bd d) : TotP (fun r => r = false → ¬ Meet a b c d) (fun n => r04Cut n a.1 a.2 b.1 b.2 c.1 c.2 d.1 d.2) := by
  have s1 := rsideEv ha hb hc
  have s2 := rsideEv ha hb hd
  have s3 := rsideEv hc hd ha
  have s4 := rsideEv hc hd hb
  refine TotP.of_eq 1 ?_
  simp only [r04CutEq]
  refine TotP.bindP (TotP.ev (edgeEv ha hb hc)) fun x hx => ?_
  subst hx
  cases e1 : edgeB a b c with
  | true =>
    simp only [br_t]
    repeat (first | exact TotP.pure (fun h => by cases h) | refine TotP.bind (sideTot ..) fun x => ?_ | refine TotP.br ?_ ?_)
  | false =>
  simp only [br_f]
  refine TotP.bindP (TotP.ev (edgeEv ha hb hd)) fun x hx => ?_
  subst hx
  cases e2 : edgeB a b d with
  | true =>
    simp only [br_t]
    repeat (first | exact TotP.pure (fun h => by cases h) | refine TotP.bind (sideTot ..) fun x => ?_ | refine TotP.br ?_ ?_)
  | false =>
  simp only [br_f]
  refine TotP.bindP (TotP.ev (edgeEv hc hd ha)) fun x hx => ?_
  subst hx
  cases e3 : edgeB c d a with
  | true =>
    simp only [br_t]
    repeat (first | exact TotP.pure (fun h => by cases h) | refine TotP.bind (sideTot ..) fun x => ?_ | refine TotP.br ?_ ?_)
  | false =>
  simp only [br_f]
  refine TotP.bindP (TotP.ev (edgeEv hc hd hb)) fun x hx => ?_
  subst hx
  cases e4 : edgeB c d b with
  | true =>
    simp only [br_t]
    refine TotP.bindP (TotP.ev s1) fun x h1 => TotP.bindP (TotP.ev s2) fun x h2 => TotP.bindP (TotP.ev s3) fun x h3 => TotP.bindP (TotP.ev s4) fun x h4 => TotP.bindP (TotP.ev s1) fun x h5 => ?_
    refine TotP.br (TotP.bindP (TotP.ev s2) fun x h6 => TotP.br (TotP.bindP (TotP.ev s3) fun x h7 => TotP.br (TotP.bindP (TotP.ev s4) fun x h8 => TotP.pure (fun h => by cases h)) ?_) ?_) ?_ <;> exact TotP.pure (fun h => by cases h)
  | false =>
  simp only [br_f]
  refine TotP.bindP (TotP.ev s1) fun x h1 => TotP.bindP (TotP.ev s2) fun x h2 => TotP.bindP (TotP.ev s3) fun x h3 => TotP.bindP (TotP.ev s4) fun x h4 => TotP.bindP (TotP.ev s1) fun x h5 => ?_
  have no : ∀ {p q x : Pt}, edgeB p q x = false → ¬ On p q x := fun h k => by rw [on_edge.1 k] at h; cases h
  have fin : (¬ Crs a b c d) → ¬ Meet a b c d := fun h => by
    rintro (k | k | k | k | k)
    · exact no e1 k
    · exact no e2 k
    · exact no e3 k
    · exact no e4 k
    · exact h k
  subst h5
  by_cases z1 : side a b c = 0
  · simp only [nbr_pos z1]
    exact TotP.pure fun _ => fin fun k => by have := k.1; omega
  · simp only [nbr_neg z1]
    refine TotP.bindP (TotP.ev s2) fun x h6 => ?_
    subst h6
    by_cases z2 : side a b d = 0
    · simp only [nbr_pos z2]
      exact TotP.pure fun _ => fin fun k => by have := k.1; omega
    · simp only [nbr_neg z2]
      refine TotP.bindP (TotP.ev s3) fun x h7 => ?_
      subst h7
      by_cases z3 : side c d a = 0
      · simp only [nbr_pos z3]
        exact TotP.pure fun _ => fin fun k => by have := k.2; omega
      · simp only [nbr_neg z3]
        refine TotP.bindP (TotP.ev s4) fun x h8 => ?_
        subst h8
        by_cases z4 : side c d b = 0
        · simp only [nbr_pos z4]
          exact TotP.pure fun _ => fin fun k => by have := k.2; omega
        · simp only [nbr_neg z4]
          rw [h1, h2, h3, h4]
          by_cases q1 : decide (0 < side a b c) = decide (0 < side a b d)
          · simp only [nbr_pos q1]
            rw [decide_eq_decide] at q1
            exact TotP.pure fun _ => fin fun k => by have := k.1; omega
          · simp only [nbr_neg q1]
            refine TotP.pure fun h => fin fun k => ?_
            have q2 : decide (0 < side c d a) = decide (0 < side c d b) := by simpa using h
            rw [decide_eq_decide] at q2
            have := k.2
            omega

def Near (n i k : Nat) : Prop := k = i + 1 ∨ (i = 0 ∧ k + 1 = n)
theorem rightL12P (l : List Pt) (hb : l.length < 1000) (hbd : ∀ x ∈ l, Bd x) (i : Nat) (hi : i < l.length) : ∀ (m k : Nat), k + m = l.length → i < k →
    TotP (fun r => (r = .inl ((l, (((l.length : Nat) : Int), (((i : Nat) : Int), ()))), ()) ∧ ∀ j, k ≤ j → j < l.length → ¬ Near l.length i j → ¬ Meet (at_ l i) (at_ l (nx l i)) (at_ l j) (at_ l (nx l j))) ∨ r = .inr ((false, ()), ()))
      (fun n => r04RightL12 n ((l, (((l.length : Nat) : Int), (((i : Nat) : Int), (((k : Nat) : Int), ())))), ())) := by
  intro m
  have h0 : ¬ ((l.length : Nat) : Int) = 0 := by omega
  have hn := nx_lt (h := l) (by omega) i
  have gi := Go.Hu.get_at hi
  have gn := Go.Hu.get_at hn
  have ti : ((i + 1 : Nat) : Int).tmod ((l.length : Nat) : Int) = ((nx l i : Nat) : Int) := tm_nat _ _
  induction m with
  | zero =>
    intro k hk _
    refine TotP.of_eq 1 ?_
    simp (disch := omega) only [r04RightL12Eq, br_neg]
    exact TotP.pure (.inl ⟨rfl, fun j h1 h2 => by omega⟩)
  | succ m ih =>
    intro k hk hik
    have hkl : ((k : Nat) : Int) < ((l.length : Nat) : Int) := by omega
    have hn2 := nx_lt (h := l) (by omega) k
    have gk := Go.Hu.get_at (h := l) (i := k) (by omega)
    have gk2 := Go.Hu.get_at hn2
    have tk : ((k + 1 : Nat) : Int).tmod ((l.length : Nat) : Int) = ((nx l k : Nat) : Int) := tm_nat _ _
    have d1 : (0 : Int) ≤ ((i : Nat) : Int) := by omega
    have d2 : (0 : Int) ≤ ((k : Nat) : Int) := by omega
    have d3 : (0 : Int) ≤ ((nx l i : Nat) : Int) := by omega
    have d4 : (0 : Int) ≤ ((nx l k : Nat) : Int) := by omega
    have cut := cutP (hbd _ (at_mem hi)) (hbd _ (at_mem hn)) (hbd _ (at_mem (h := l) (i := k) (by omega))) (hbd _ (at_mem hn2))
    have cont : (Near l.length i k ∨ ¬ Meet (at_ l i) (at_ l (nx l i)) (at_ l k) (at_ l (nx l k))) → TotP (fun r => (r = .inl ((l, (((l.length : Nat) : Int), (((i : Nat) : Int), ()))), ()) ∧ ∀ j, k ≤ j → j < l.length → ¬ Near l.length i j → ¬ Meet (at_ l i) (at_ l (nx l i)) (at_ l j) (at_ l (nx l j))) ∨ r = .inr ((false, ()), ()))
      (fun n => r04RightL12 n ((l, (((l.length : Nat) : Int), (((i : Nat) : Int), (((k + 1 : Nat) : Int), ())))), ())) := fun hk0 =>
      (ih (k + 1) (by omega) (by omega)).mono fun r hr => hr.elim (fun ⟨h1, h2⟩ => .inl ⟨h1, fun j j1 j2 j3 => by
        by_cases e : j = k
        · subst e; exact hk0.resolve_left j3
        · exact h2 j (by omega) j2 j3⟩) .inr
    have wi : IntKind.i64.wrap (((l.length : Nat) : Int) - 1) = ((l.length : Nat) : Int) - 1 := w64 (by omega) (by omega)
    refine TotP.of_eq 1 ?_
    simp only [r04RightL12Eq, br_pos hkl, wr1 i (by omega), wr1 k (by omega), ti, tk, br_neg h0, br_pos d1, br_pos d2, br_pos d3, br_pos d4, Int.toNat_natCast, gi, gn, gk, gk2, Option.bind_some, wi]
    by_cases c1 : ((k : Nat) : Int) = ((i + 1 : Nat) : Int)
    · simp only [br_pos c1]
      exact TotP.bindP cut fun x _ => cont (.inl (.inl (by omega)))
    · simp only [br_neg c1]
      by_cases c2 : ((i : Nat) : Int) = 0
      · simp only [br_pos c2]
        refine TotP.bindP cut fun x hx => ?_
        by_cases c3 : ((k : Nat) : Int) = ((l.length : Nat) : Int) - 1
        · simp only [nbr_pos c3]
          exact cont (.inl (.inr ⟨by omega, by omega⟩))
        · simp only [nbr_neg c3]
          cases x with
          | true => exact TotP.pure (.inr rfl)
          | false => exact cont (.inr (hx rfl))
      · simp only [br_neg c2]
        refine TotP.bindP cut fun x hx => ?_
        cases x with
        | true => exact TotP.pure (.inr rfl)
        | false => exact cont (.inr (hx rfl))
theorem rightL6P (l : List Pt) (hb : l.length < 1000) (hbd : ∀ x ∈ l, Bd x) : ∀ (m i : Nat), i + m = l.length →
    TotP (fun r => (r = .inl ((l, ()), ()) ∧ ∀ i', i ≤ i' → i' < l.length → side (at_ l i') (at_ l (nx l i')) (at_ l ((i' + 2) % l.length)) ≠ 0 ∧ ∀ j, i' < j → j < l.length → ¬ Near l.length i' j → ¬ Meet (at_ l i') (at_ l (nx l i')) (at_ l j) (at_ l (nx l j))) ∨ r = .inr ((false, ()), ()))
      (fun n => r04RightL6 n ((l, (((l.length : Nat) : Int), (((i : Nat) : Int), ()))), ())) := by
  intro m
  induction m with
  | zero =>
    intro i hi
    refine TotP.of_eq 1 ?_
    simp (disch := omega) only [r04RightL6Eq, br_neg]
    exact TotP.pure (.inl ⟨rfl, fun i' h1 h2 => by omega⟩)
  | succ m ih =>
    intro i hi
    have h0 : ¬ ((l.length : Nat) : Int) = 0 := by omega
    have hil : ((i : Nat) : Int) < ((l.length : Nat) : Int) := by omega
    have hn := nx_lt (h := l) (by omega) i
    have hn2 : (i + 2) % l.length < l.length := Nat.mod_lt _ (by omega)
    have gi := Go.Hu.get_at (h := l) (i := i) (by omega)
    have gn := Go.Hu.get_at hn
    have gm := Go.Hu.get_at hn2
    have ti : ((i + 1 : Nat) : Int).tmod ((l.length : Nat) : Int) = ((nx l i : Nat) : Int) := tm_nat _ _
    have t2 : IntKind.i64.wrap (((i : Nat) : Int) + 2) = ((i + 2 : Nat) : Int) := by rw [w64 (by omega) (by omega)]; rfl
    have tj : ((i + 2 : Nat) : Int).tmod ((l.length : Nat) : Int) = (((i + 2) % l.length : Nat) : Int) := tm_nat _ _
    have d1 : (0 : Int) ≤ ((i : Nat) : Int) := by omega
    have d2 : (0 : Int) ≤ (((i + 2) % l.length : Nat) : Int) := Int.natCast_nonneg _
    have d3 : (0 : Int) ≤ ((nx l i : Nat) : Int) := by omega
    refine TotP.of_eq 1 ?_
    simp only [r04RightL6Eq, br_pos hil, wr1 i (by omega), t2, ti, tj, br_neg h0, br_pos d1, br_pos d2, br_pos d3, Int.toNat_natCast, gi, gn, gm, Option.bind_some]
    refine TotP.bindP (TotP.ev (rsideEv (hbd _ (at_mem (h := l) (i := i) (by omega))) (hbd _ (at_mem hn)) (hbd _ (at_mem hn2)))) fun x hx => ?_
    subst hx
    by_cases c : side (at_ l i) (at_ l (nx l i)) (at_ l ((i + 2) % l.length)) = 0
    · simp only [br_pos c]
      exact TotP.pure (.inr rfl)
    · simp only [br_neg c]
      refine TotP.bindP (rightL12P l hb hbd i (by omega) (l.length - (i + 1)) (i + 1) (by omega) (by omega)) fun r hr => ?_
      rcases hr with ⟨rfl, hr⟩ | rfl
      · simp only [wr1 i (by omega)]
        refine (ih (i + 1) (by omega)).mono fun r h => h.elim (fun ⟨h1, h2⟩ => .inl ⟨h1, fun i' j1 j2 => ?_⟩) .inr
        by_cases e : i' = i
        · subst e
          exact ⟨c, fun j g1 g2 => hr j (by omega) g2⟩
        · exact h2 i' (by omega) j2
      · exact TotP.pure (.inr rfl)
theorem wrap_add (a b : Int) : IntKind.i64.wrap (IntKind.i64.wrap a + b) = IntKind.i64.wrap (a + b) := by rw [i64_eq, i64_eq, i64_eq]; omega
theorem area2L3P (o : Pt) (l : List Pt) (hb : l.length < 1000) (hbd : ∀ x ∈ o :: l, Bd x) : ∀ (r : List Pt) (t : Pt) (i : Nat) (s : Int), (o :: l).drop i = t :: r → 1 ≤ i →
    Ev (fun n => r04Area2L3 n ((o :: l, (IntKind.i64.wrap s, (((i : Nat) : Int), ()))), ())) ((IntKind.i64.wrap (s + fan o (t :: r)), ()), ()) := by
  intro r
  induction r with
  | nil =>
    intro t i s h hi
    obtain ⟨g1, g2, g3⟩ := gdrop h
    have : (o :: l).length ≤ i + 1 := gdrop_nil g2
    refine Ev.of_eq 1 ?_
    have hc' : ¬ ((i + 1 : Nat) : Int) < (((o :: l).length : Nat) : Int) := by omega
    simp only [r04Area2L3Eq, wr1 i (by simp at g3; omega), br_neg hc']
    exact (Ev.pure _).congr (by simp [fan, pe, sm])
  | cons u r ih =>
    intro t i s h hi
    obtain ⟨g1, g2, g3⟩ := gdrop h
    obtain ⟨k1, k2, k3⟩ := gdrop g2
    refine Ev.of_eq 1 ?_
    have hl : (o :: l).length < 1001 := by simp; omega
    have hc' : ((i + 1 : Nat) : Int) < (((o :: l).length : Nat) : Int) := by omega
    have g0 : (o :: l)[Int.toNat 0]? = some o := rfl
    have d1 : (0 : Int) ≤ ((i : Nat) : Int) := by omega
    have d2 : (0 : Int) ≤ ((i + 1 : Nat) : Int) := by omega
    have m1 := List.mem_of_getElem? g1
    have m2 := List.mem_of_getElem? k1
    simp only [r04Area2L3Eq, wr1 i (by omega), br_pos hc', g0, br_pos d1, br_pos d2, Int.toNat_natCast, g1, k1, Option.bind_some]
    refine Ev.bind (rsideEv (hbd o (by simp)) (hbd t m1) (hbd u m2)) ?_
    rw [wrap_add]
    refine (ih u (i + 1) (s + side o t u) g2 (by omega)).congr ?_
    have : fan o (t :: u :: r) = side o t u + fan o (u :: r) := by simp only [fan, pe, sm]
    rw [this, Int.add_assoc]
theorem area2Ev (l : List Pt) (hb : l.length < 1000) (h3 : 3 ≤ l.length) (hbd : ∀ x ∈ l, Bd x) : Ev (fun n => r04Area2 n l) (IntKind.i64.wrap (carea l)) := by
  obtain ⟨o, t, u, L, rfl⟩ := shape3 h3
  refine Ev.of_eq 1 ?_
  simp only [r04Area2Eq]
  have := area2L3P o (t :: u :: L) (by simp at hb ⊢; omega) hbd (u :: L) t 1 0 rfl (Nat.le_refl _)
  refine Ev.bind this ?_
  exact (Ev.pure _).congr (by rw [Int.zero_add, fan_area])
theorem ok_bd {l : List Pt} (h : l.all okP = true) : ∀ x ∈ l, (-439400000 ≤ x.1 ∧ x.1 ≤ 439400000) ∧ (-439400000 ≤ x.2 ∧ x.2 ≤ 439400000) := fun x hx => by
  have := List.all_eq_true.1 h x hx
  unfold okP at this
  simp only [Bool.and_eq_true, decide_eq_true_eq] at this
  omega
theorem crs0_bd {a b : Pt} (ha : (-439400000 ≤ a.1 ∧ a.1 ≤ 439400000) ∧ (-439400000 ≤ a.2 ∧ a.2 ≤ 439400000)) (hb : (-439400000 ≤ b.1 ∧ b.1 ≤ 439400000) ∧ (-439400000 ≤ b.2 ∧ b.2 ≤ 439400000)) : -400000000000000000 ≤ crs0 (a, b) ∧ crs0 (a, b) ≤ 400000000000000000 := by
  have key : ∀ {x y : Int}, (-439400000 ≤ x ∧ x ≤ 439400000) → (-439400000 ≤ y ∧ y ≤ 439400000) → -200000000000000000 ≤ x * y ∧ x * y ≤ 200000000000000000 := fun {x y} hx hy => by
    have h1 := Int.mul_nonneg (show 0 ≤ x + 439400000 by omega) (show 0 ≤ y + 439400000 by omega)
    have h2 := Int.mul_nonneg (show 0 ≤ 439400000 - x by omega) (show 0 ≤ 439400000 - y by omega)
    have h3 := Int.mul_nonneg (show 0 ≤ x + 439400000 by omega) (show 0 ≤ 439400000 - y by omega)
    have h4 := Int.mul_nonneg (show 0 ≤ 439400000 - x by omega) (show 0 ≤ y + 439400000 by omega)
    have e1 : (x + 439400000) * (y + 439400000) = x * y + 439400000 * x + 439400000 * y + 439400000 * 439400000 := by grind
    have e2 : (439400000 - x) * (439400000 - y) = x * y - 439400000 * x - 439400000 * y + 439400000 * 439400000 := by grind
    have e3 : (x + 439400000) * (439400000 - y) = - (x * y) + 439400000 * x - 439400000 * y + 439400000 * 439400000 := by grind
    have e4 : (439400000 - x) * (y + 439400000) = - (x * y) - 439400000 * x + 439400000 * y + 439400000 * 439400000 := by grind
    omega
  have := key ha.1 hb.2
  have := key ha.2 hb.1
  unfold crs0
  simp only
  omega
theorem carea_bd {l : List Pt} (h : l.all okP = true) (hl : l.length ≤ 12) : -4800000000000000000 ≤ carea l ∧ carea l ≤ 4800000000000000000 := by
  have key : ∀ E : List (Pt × Pt), (∀ e ∈ E, -400000000000000000 ≤ crs0 e ∧ crs0 e ≤ 400000000000000000) → -(400000000000000000 * (E.length : Int)) ≤ sm crs0 E ∧ sm crs0 E ≤ 400000000000000000 * (E.length : Int) := by
    intro E
    induction E with
    | nil => intro _; simp [sm]
    | cons e E ih =>
      intro h
      have := ih fun e he => h e (by simp [he])
      have := h e (by simp)
      simp only [sm, List.length_cons]
      omega
  have := key (ed l) fun e he => by
    have m := ed_mem (a := e.1) (b := e.2) he
    exact crs0_bd (ok_bd h _ m.1) (ok_bd h _ m.2)
  rw [ed_len] at this
  unfold carea
  omega
/-- What the validity test takes. -/
theorem rightP (l : List Pt) (hb : l.length ≤ 9223372036854775807) : TotP (fun r => r = true → Pos l ∧ l.length ≤ 12 ∧ ∀ x ∈ l, Bd x) (fun n => r04Right n l) := by
  refine TotP.of_eq 1 ?_
  simp only [r04RightEq]
  refine TotP.bindP (TotP.ev (mayEv l hb)) fun x hx => ?_
  subst hx
  by_cases h3 : l.length < 3
  · have h3' : ((l.length : Nat) : Int) < 3 := by omega
    simp only [br_pos h3']
    exact TotP.pure fun h => by cases h
  · have h3' : ¬ ((l.length : Nat) : Int) < 3 := by omega
    simp only [br_neg h3']
    by_cases h12 : 12 < l.length
    · have h12' : (12 : Int) < ((l.length : Nat) : Int) := by omega
      simp only [br_pos h12']
      exact TotP.pure fun h => by cases h
    · have h12' : ¬ (12 : Int) < ((l.length : Nat) : Int) := by omega
      simp only [br_neg h12']
      cases hm : l.all okP with
      | false => exact TotP.pure fun h => by cases h
      | true =>
      simp only [Bool.not_true, br_f]
      have hbd := bd_of hm
      refine TotP.bindP (rightL6P l (by omega) hbd l.length 0 (by omega)) fun r hr => ?_
      rcases hr with ⟨rfl, hr⟩ | rfl
      · refine TotP.bindP (TotP.ev (area2Ev l (by omega) (by omega) hbd)) fun x hx => ?_
        subst hx
        have bd := carea_bd hm (by omega)
        rw [w64 (by omega) (by omega)]
        refine TotP.pure fun h => ⟨?_, by omega, hbd⟩
        have S : Simple l := simple_of (by omega) (fun i hi => (hr i (Nat.zero_le _) hi).1) fun i k h1 h2 h3 h4 => (hr i (Nat.zero_le _) (by omega)).2 k h1 h2 (fun g => g.elim h3 h4)
        exact simple_pos S (by simpa using h)
      · exact TotP.pure fun h => by cases h
end Go.Hl
