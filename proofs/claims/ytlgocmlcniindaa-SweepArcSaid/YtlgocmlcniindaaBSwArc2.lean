import Derived.Test.YtlgocmlcniindaaBSwArc
set_option linter.unusedVariables false
set_option linter.unusedSimpArgs false
set_option linter.unnecessarySimpa false
/-
  SWEEP: the arc, the law.
-/
namespace Go.Sw
open Go Go.Am Go.Proofs Go.Hu

theorem zipmap (F : Pt → Pt → Pt) (f g : Pt → Pt) : ∀ L : List Pt, List.zipWith F (L.map f) (L.map g) = L.map fun z => F (f z) (g z) := by
  intro L
  induction L with
  | nil => rfl
  | cons z L ih => simp [ih]
def S2 (p : Pt) : Prop := (-300000 ≤ p.1 ∧ p.1 ≤ 300000) ∧ (-300000 ≤ p.2 ∧ p.2 ≤ 300000)
def edgeV (a b o w : Pt) (d : Int) : Int := (b.1 - a.1) * (w.2 + d * (o.2 - a.2)) - (b.2 - a.2) * (w.1 + d * (o.1 - a.1))
theorem edge_wrap {a b o w : Pt} {d : Int} (ha : S2 a) (hb : S2 b) (ho : S2 o) (hw : (-3000000000 ≤ w.1 ∧ w.1 ≤ 3000000000) ∧ (-3000000000 ≤ w.2 ∧ w.2 ≤ 3000000000)) (hd : 0 ≤ d ∧ d ≤ 20000) :
    IntKind.i64.wrap (IntKind.i64.wrap (IntKind.i64.wrap (b.1 - a.1) * IntKind.i64.wrap (w.2 + IntKind.i64.wrap (d * IntKind.i64.wrap (o.2 - a.2)))) - IntKind.i64.wrap (IntKind.i64.wrap (b.2 - a.2) * IntKind.i64.wrap (w.1 + IntKind.i64.wrap (d * IntKind.i64.wrap (o.1 - a.1))))) = edgeV a b o w d := by
  obtain ⟨a1, a2⟩ := ha
  obtain ⟨b1, b2⟩ := hb
  obtain ⟨o1, o2⟩ := ho
  obtain ⟨w1, w2⟩ := hw
  have m1 := mulb (A := 20000) (B := 600000) (a := d) (b := o.2 - a.2) (by omega) (by omega)
  have m2 := mulb (A := 20000) (B := 600000) (a := d) (b := o.1 - a.1) (by omega) (by omega)
  have m3 := mulb (A := 600000) (B := 15000000000) (a := b.1 - a.1) (b := w.2 + d * (o.2 - a.2)) (by omega) (by omega)
  have m4 := mulb (A := 600000) (B := 15000000000) (a := b.2 - a.2) (b := w.1 + d * (o.1 - a.1)) (by omega) (by omega)
  rw [w64 (n := b.1 - a.1) (by omega) (by omega), w64 (n := o.2 - a.2) (by omega) (by omega), w64 (n := b.2 - a.2) (by omega) (by omega), w64 (n := o.1 - a.1) (by omega) (by omega),
    w64 (n := d * (o.2 - a.2)) (by omega) (by omega), w64 (n := d * (o.1 - a.1)) (by omega) (by omega), w64 (n := w.2 + d * (o.2 - a.2)) (by omega) (by omega), w64 (n := w.1 + d * (o.1 - a.1)) (by omega) (by omega),
    w64 (n := (b.1 - a.1) * (w.2 + d * (o.2 - a.2))) (by omega) (by omega), w64 (n := (b.2 - a.2) * (w.1 + d * (o.1 - a.1))) (by omega) (by omega), w64 (by omega) (by omega)]
  rfl
theorem insideL2 (s : List Pt) (hl : s.length < 1000000) (hs : ∀ x ∈ s, S2 x) (o w : Pt) (d : Int) (ho : S2 o) (hw : (-3000000000 ≤ w.1 ∧ w.1 ≤ 3000000000) ∧ (-3000000000 ≤ w.2 ∧ w.2 ≤ 3000000000)) (hd : 0 ≤ d ∧ d ≤ 20000)
    (hp : ∀ i, i < s.length → 0 ≤ edgeV (at_ s i) (at_ s (nx s i)) o w d) : ∀ (k i : Nat), i + k = s.length →
    Ev (fun n => l06InsideL2 n ((s, (d, ((), ((), (((i : Nat) : Int), ()))))), ((o.1, (o.2, ())), ((w.1, (w.2, ())), ())))) (.inl ((s, ()), ())) := by
  intro k
  induction k with
  | zero =>
    intro i hi
    refine Ev.of_eq 1 ?_
    simp (disch := omega) only [l06InsideL2Eq, br_neg]
    exact Ev.pure _
  | succ k ih =>
    intro i hi
    have hi' : i < s.length := by omega
    have hn := nx_lt (h := s) (by omega) i
    have gi := Go.Hu.get_at hi'
    have gn := Go.Hu.get_at hn
    have c1 : ((i : Nat) : Int) < ((s.length : Nat) : Int) := by omega
    have c2 : (0 : Int) ≤ ((i : Nat) : Int) := by omega
    have c3 : (0 : Int) ≤ ((nx s i : Nat) : Int) := by omega
    have h0 : ¬ ((s.length : Nat) : Int) = 0 := by omega
    have hpi := hp i hi'
    have c4 : ¬ edgeV (at_ s i) (at_ s (nx s i)) o w d < 0 := by omega
    refine Ev.of_eq 1 ?_
    simp only [l06InsideL2Eq, br_pos c1, br_pos c2, br_neg h0, Int.toNat_natCast, gi, Option.bind_some, wr1 i (by omega), tmod_nx hi', br_pos c3, gn,
      edge_wrap (hs _ (at_mem hi')) (hs _ (at_mem hn)) ho hw hd, br_neg c4]
    exact ih (i + 1) (by omega)
theorem insideEv (s : List Pt) (hl : s.length < 1000000) (h0 : 0 < s.length) (hs : ∀ x ∈ s, S2 x) (o w : Pt) (d : Int) (ho : S2 o) (hw : (-3000000000 ≤ w.1 ∧ w.1 ≤ 3000000000) ∧ (-3000000000 ≤ w.2 ∧ w.2 ≤ 3000000000)) (hd : 0 ≤ d ∧ d ≤ 20000)
    (hp : ∀ i, i < s.length → 0 ≤ edgeV (at_ s i) (at_ s (nx s i)) o w d) : Ev (fun n => l06Inside n s o.1 o.2 w.1 w.2 d) true := by
  refine Ev.of_eq 1 ?_
  simp only [l06InsideEq]
  refine Ev.bind (insideL2 s hl hs o w d ho hw hd hp s.length 0 (by omega)) ?_
  exact (Ev.pure _).congr (decide_eq_true (show (0 : Int) < ((s.length : Nat) : Int) by omega))

theorem arcW_bd (u : Pt) (h k : Int) (hu : (-5200 ≤ u.1 ∧ u.1 ≤ 5200) ∧ (-5200 ≤ u.2 ∧ u.2 ≤ 5200)) (hh : 0 ≤ h ∧ h ≤ 99) (hk : 0 ≤ k ∧ k ≤ 99) :
    ((-3000000000 ≤ (arcW (16 * u.1, 16 * u.2) h k).1 ∧ (arcW (16 * u.1, 16 * u.2) h k).1 ≤ 3000000000) ∧ (-3000000000 ≤ (arcW (16 * u.1, 16 * u.2) h k).2 ∧ (arcW (16 * u.1, 16 * u.2) h k).2 ≤ 3000000000)) ∧
    IntKind.i64.wrap (IntKind.i64.wrap ((16 * u.1) * IntKind.i64.wrap (IntKind.i64.wrap (h * h) - IntKind.i64.wrap (k * k))) - IntKind.i64.wrap (IntKind.i64.wrap (IntKind.i64.wrap ((16 * u.2) * 2) * h) * k)) = (arcW (16 * u.1, 16 * u.2) h k).1 ∧
    IntKind.i64.wrap (IntKind.i64.wrap ((16 * u.2) * IntKind.i64.wrap (IntKind.i64.wrap (h * h) - IntKind.i64.wrap (k * k))) + IntKind.i64.wrap (IntKind.i64.wrap (IntKind.i64.wrap ((16 * u.1) * 2) * h) * k)) = (arcW (16 * u.1, 16 * u.2) h k).2 := by
  have m1 := mulb (A := 99) (B := 99) (a := h) (b := h) (by omega) (by omega)
  have m2 := mulb (A := 99) (B := 99) (a := k) (b := k) (by omega) (by omega)
  have n1 := Int.mul_nonneg hh.1 hh.1
  have n2 := Int.mul_nonneg hk.1 hk.1
  have m3 := mulb (A := 83200) (B := 9801) (a := 16 * u.1) (b := h * h - k * k) (by omega) (by omega)
  have m4 := mulb (A := 83200) (B := 9801) (a := 16 * u.2) (b := h * h - k * k) (by omega) (by omega)
  have m5 := mulb (A := 166400) (B := 99) (a := 16 * u.1 * 2) (b := h) (by omega) (by omega)
  have m6 := mulb (A := 166400) (B := 99) (a := 16 * u.2 * 2) (b := h) (by omega) (by omega)
  have m7 := mulb (A := 16473600) (B := 99) (a := 16 * u.1 * 2 * h) (b := k) (by omega) (by omega)
  have m8 := mulb (A := 16473600) (B := 99) (a := 16 * u.2 * 2 * h) (b := k) (by omega) (by omega)
  have e1 : (arcW (16 * u.1, 16 * u.2) h k).1 = 16 * u.1 * (h * h - k * k) - 16 * u.2 * 2 * h * k := rfl
  have e2 : (arcW (16 * u.1, 16 * u.2) h k).2 = 16 * u.2 * (h * h - k * k) + 16 * u.1 * 2 * h * k := rfl
  rw [e1, e2]
  refine ⟨by omega, ?_, ?_⟩
  · rw [w64 (n := h * h) (by omega) (by omega), w64 (n := k * k) (by omega) (by omega), w64 (n := h * h - k * k) (by omega) (by omega), w64 (n := 16 * u.1 * (h * h - k * k)) (by omega) (by omega), w64 (n := 16 * u.2 * 2) (by omega) (by omega),
      w64 (n := 16 * u.2 * 2 * h) (by omega) (by omega), w64 (n := 16 * u.2 * 2 * h * k) (by omega) (by omega), w64 (by omega) (by omega)]
  · rw [w64 (n := h * h) (by omega) (by omega), w64 (n := k * k) (by omega) (by omega), w64 (n := h * h - k * k) (by omega) (by omega), w64 (n := 16 * u.2 * (h * h - k * k)) (by omega) (by omega), w64 (n := 16 * u.1 * 2) (by omega) (by omega),
      w64 (n := 16 * u.1 * 2 * h) (by omega) (by omega), w64 (n := 16 * u.1 * 2 * h * k) (by omega) (by omega), w64 (by omega) (by omega)]
theorem arcL23 (up : Bool) (L s : List Pt) (hL : L.length ≤ 12) (hl : s.length < 1000000) (h0 : 0 < s.length) (hs : ∀ x ∈ s, S2 x) (o x : Pt) (ho : (-16000 ≤ o.1 ∧ o.1 ≤ 16000) ∧ (-16000 ≤ o.2 ∧ o.2 ≤ 16000)) (hx : (0 ≤ x.1 ∧ x.1 ≤ 65) ∧ (0 ≤ x.2 ∧ x.2 ≤ 65)) (h k : Int) (hh : 0 ≤ h ∧ h ≤ 99) (hk : 0 ≤ k ∧ k ≤ 99)
    (hp : ∀ z ∈ L, ∀ i, i < s.length → 0 ≤ edgeV (at_ s i) (at_ s (nx s i)) o (arcW (16 * (rotP (p41 z) x.1 x.2).1, 16 * (rotP (p41 z) x.1 x.2).2) h k) (h * h + k * k)) : ∀ (r : List Pt) (i : Nat), L.drop i = r → i ≤ L.length →
    Ev (fun n => l06SweepArcL23 n ((up, ((), (L.map (arm o x), (s, (h, (k, (h * h + k * k, (((i : Nat) : Int), ())))))))), ((), ((o.1, (o.2, ())), ())))) (.inl ((up, ()), ())) := by
  intro r
  induction r with
  | nil =>
    intro i h1 hi
    have h2 := gdrop_nil h1
    refine Ev.of_eq 1 ?_
    have c1 : ¬ ((i : Nat) : Int) < (((L.map (arm o x)).length : Nat) : Int) := by rw [List.length_map]; omega
    simp only [l06SweepArcL23Eq, br_neg c1]
    exact Ev.pure _
  | cons z r ih =>
    intro i h1 hi
    obtain ⟨g1, g2, g3⟩ := gdrop h1
    have gz : (L.map (arm o x))[i]? = some (arm o x z) := by rw [List.getElem?_map, g1]; rfl
    have c1 : ((i : Nat) : Int) < (((L.map (arm o x)).length : Nat) : Int) := by rw [List.length_map]; omega
    have c2 : (0 : Int) ≤ ((i : Nat) : Int) := by omega
    have rb := rot_bd (p41 z) x ⟨t41_bd _, t41_bd _⟩ hx
    have w1 : IntKind.i64.wrap ((arm o x z).1 - o.1) = 16 * (rotP (p41 z) x.1 x.2).1 := by
      unfold arm; rw [w64 (by simp only; omega) (by simp only; omega)]; simp only; omega
    have w2 : IntKind.i64.wrap ((arm o x z).2 - o.2) = 16 * (rotP (p41 z) x.1 x.2).2 := by
      unfold arm; rw [w64 (by simp only; omega) (by simp only; omega)]; simp only; omega
    obtain ⟨b1, b2, b3⟩ := arcW_bd (rotP (p41 z) x.1 x.2) h k rb hh hk
    have m1 := mulb (A := 99) (B := 99) (a := h) (b := h) (by omega) (by omega)
    have m2 := mulb (A := 99) (B := 99) (a := k) (b := k) (by omega) (by omega)
    have n1 := Int.mul_nonneg hh.1 hh.1
    have n2 := Int.mul_nonneg hk.1 hk.1
    refine Ev.of_eq 1 ?_
    simp only [l06SweepArcL23Eq, br_pos c1, br_pos c2, Int.toNat_natCast, gz, Option.bind_some, w1, w2]
    refine Ev.bind (atEv _ _) ?_
    simp only [b2, b3]
    refine Ev.bind (atEv _ _) ?_
    refine Ev.bind (insideEv s hl h0 hs o _ _ ⟨by omega, by omega⟩ b1 ⟨by omega, by omega⟩ (hp z (List.mem_of_getElem? g1))) ?_
    simp only [Bool.not_true, br_f, wr1 i (by omega)]
    exact ih (i + 1) g2 (by omega)
end Go.Sw
