import Derived.Test.YtlgocmlcniindaaBSwLaw
import Derived.Test.YtlgocmlcniindaaBHuArc
set_option linter.unusedVariables false
set_option linter.unusedSimpArgs false
set_option linter.unnecessarySimpa false
/-
  SWEEP: the arc.
-/
namespace Go.Sw
open Go Go.Am Go.Proofs Go.Hu

def tb : Nat → Pt
  | 0 => (65, 0) | 1 => (63, 16) | 2 => (60, 25) | 3 => (56, 33) | 4 => (52, 39) | 5 => (39, 52) | 6 => (33, 56) | 7 => (25, 60) | 8 => (16, 63) | _ => (0, 65)
def cB (q : Nat) : Int := (tb q).1 * (tb (q + 1)).1 + (tb q).2 * (tb (q + 1)).2
def sB (q : Nat) : Int := (tb q).1 * (tb (q + 1)).2 - (tb q).2 * (tb (q + 1)).1
theorem nine {q : Nat} (h : q < 9) : q = 0 ∨ q = 1 ∨ q = 2 ∨ q = 3 ∨ q = 4 ∨ q = 5 ∨ q = 6 ∨ q = 7 ∨ q = 8 := by omega
theorem tb_ok {q : Nat} (h : q < 9) : (tb q).1 * (tb q).1 + (tb q).2 * (tb q).2 = 4225 ∧ cB q * cB q + sB q * sB q = 4225 * 4225 ∧ 0 < sB q ∧ 0 < 4225 + cB q ∧ cB q ≤ 4225 ∧ 8 * (4225 - cB q) ≤ 4225 + cB q ∧ 18 * (4225 - cB q) ≤ 16900 := by
  rcases nine h with rfl | rfl | rfl | rfl | rfl | rfl | rfl | rfl | rfl <;> decide
theorem tb_bd (q : Nat) : (0 ≤ (tb q).1 ∧ (tb q).1 ≤ 65) ∧ (0 ≤ (tb q).2 ∧ (tb q).2 ≤ 65) := by
  unfold tb; split <;> decide
theorem quarterTabEv : Ev (fun n => l06Quarter n) ((65, 0), ((63, 16), ((60, 25), ((56, 33), ((52, 39), ((39, 52), ((33, 56), ((25, 60), ((16, 63), (0, 65)))))))))) := by
  refine Ev.of_eq 1 ?_
  simp only [l06QuarterEq]
  exact Ev.pure _
theorem mulb {a b A B : Int} (ha : -A ≤ a ∧ a ≤ A) (hb : -B ≤ b ∧ b ≤ B) : -(A * B) ≤ a * b ∧ a * b ≤ A * B := by
  have hA : 0 ≤ A := by omega
  have hB : 0 ≤ B := by omega
  have p1 := Int.mul_nonneg (show 0 ≤ A - a by omega) (show 0 ≤ B - b by omega)
  have p2 := Int.mul_nonneg (show 0 ≤ A + a by omega) (show 0 ≤ B + b by omega)
  have p3 := Int.mul_nonneg (show 0 ≤ A - a by omega) (show 0 ≤ B + b by omega)
  have p4 := Int.mul_nonneg (show 0 ≤ A + a by omega) (show 0 ≤ B - b by omega)
  have e1 : (A - a) * (B - b) = A * B - A * b - a * B + a * b := by grind
  have e2 : (A + a) * (B + b) = A * B + A * b + a * B + a * b := by grind
  have e3 : (A - a) * (B + b) = A * B + A * b - a * B - a * b := by grind
  have e4 : (A + a) * (B - b) = A * B - A * b + a * B - a * b := by grind
  omega

theorem wayEv (q : Nat) (hq : q < 9) (k h : Int) (hk : 0 ≤ k ∧ k ≤ 99) (hh : 0 ≤ h ∧ h ≤ 99) : Ev (fun n => l06Way n ((q : Nat) : Int) k h) (decide (k * (4225 + cB q) ≤ h * sB q)) := by
  refine Ev.of_eq 1 ?_
  simp only [l06WayEq]
  refine Ev.bind (x := ((((q : Nat) : Int), (k, (h, ((), ())))), (((tb q).1, ((tb q).2, ())), ()))) (Ev.bind quarterTabEv ?_) ?_
  · rcases nine hq with rfl | rfl | rfl | rfl | rfl | rfl | rfl | rfl | rfl <;> exact Ev.pure _
  refine Ev.bind (x := ((k, (h, ((), ((), ())))), (((tb q).1, ((tb q).2, ())), (((tb (q + 1)).1, ((tb (q + 1)).2, ())), ())))) (Ev.bind quarterTabEv ?_) ?_
  · simp only [wr1 q (by omega)]
    rcases nine hq with rfl | rfl | rfl | rfl | rfl | rfl | rfl | rfl | rfl <;> exact Ev.pure _
  · obtain ⟨b1, b2⟩ := tb_bd q
    obtain ⟨b3, b4⟩ := tb_bd (q + 1)
    have m1 := mulb (A := 65) (B := 65) (a := (tb q).1) (b := (tb (q + 1)).1) (by omega) (by omega)
    have m2 := mulb (A := 65) (B := 65) (a := (tb q).2) (b := (tb (q + 1)).2) (by omega) (by omega)
    have m3 := mulb (A := 65) (B := 65) (a := (tb q).1) (b := (tb (q + 1)).2) (by omega) (by omega)
    have m4 := mulb (A := 65) (B := 65) (a := (tb q).2) (b := (tb (q + 1)).1) (by omega) (by omega)
    have w1 : IntKind.i64.wrap ((tb q).1 * (tb (q + 1)).1) = (tb q).1 * (tb (q + 1)).1 := w64 (by omega) (by omega)
    have w2 : IntKind.i64.wrap ((tb q).2 * (tb (q + 1)).2) = (tb q).2 * (tb (q + 1)).2 := w64 (by omega) (by omega)
    have w3 : IntKind.i64.wrap ((tb q).1 * (tb (q + 1)).2) = (tb q).1 * (tb (q + 1)).2 := w64 (by omega) (by omega)
    have w4 : IntKind.i64.wrap ((tb q).2 * (tb (q + 1)).1) = (tb q).2 * (tb (q + 1)).1 := w64 (by omega) (by omega)
    have w5 : IntKind.i64.wrap ((tb q).1 * (tb (q + 1)).1 + (tb q).2 * (tb (q + 1)).2) = cB q := w64 (by omega) (by omega)
    have w6 : IntKind.i64.wrap ((tb q).1 * (tb (q + 1)).2 - (tb q).2 * (tb (q + 1)).1) = sB q := w64 (by omega) (by omega)
    have c1 : -8450 ≤ cB q ∧ cB q ≤ 8450 := by unfold cB; omega
    have c2 : -8450 ≤ sB q ∧ sB q ≤ 8450 := by unfold sB; omega
    have w7 : IntKind.i64.wrap (4225 + cB q) = 4225 + cB q := w64 (by omega) (by omega)
    have m5 := mulb (A := 99) (B := 12675) (a := k) (b := 4225 + cB q) (by omega) (by omega)
    have m6 := mulb (A := 99) (B := 8450) (a := h) (b := sB q) (by omega) (by omega)
    have w8 : IntKind.i64.wrap (k * (4225 + cB q)) = k * (4225 + cB q) := w64 (by omega) (by omega)
    have w9 : IntKind.i64.wrap (h * sB q) = h * sB q := w64 (by omega) (by omega)
    simp only [w1, w2, w3, w4, w5, w6, w7, w8, w9]
    exact Ev.pure _

theorem t41_bd (x : Int) : -40 ≤ x.tmod 41 ∧ x.tmod 41 ≤ 40 := by
  rcases Int.lt_or_le x 0 with h | h
  · have : x.tmod 41 = -((-x).tmod 41) := by rw [Int.neg_tmod, Int.neg_neg]
    rw [this, Int.tmod_eq_emod_of_nonneg (by omega)]; omega
  · rw [Int.tmod_eq_emod_of_nonneg h]; omega
def p41 (z : Pt) : Pt := (z.1.tmod 41, z.2.tmod 41)
theorem rot_bd (p x : Pt) (hp : (-40 ≤ p.1 ∧ p.1 ≤ 40) ∧ (-40 ≤ p.2 ∧ p.2 ≤ 40)) (hx : (0 ≤ x.1 ∧ x.1 ≤ 65) ∧ (0 ≤ x.2 ∧ x.2 ≤ 65)) : (-5200 ≤ (rotP p x.1 x.2).1 ∧ (rotP p x.1 x.2).1 ≤ 5200) ∧ (-5200 ≤ (rotP p x.1 x.2).2 ∧ (rotP p x.1 x.2).2 ≤ 5200) := by
  have m1 := mulb (A := 40) (B := 65) (a := p.1) (b := x.1) (by omega) (by omega)
  have m2 := mulb (A := 40) (B := 65) (a := p.2) (b := x.2) (by omega) (by omega)
  have m3 := mulb (A := 40) (B := 65) (a := p.1) (b := x.2) (by omega) (by omega)
  have m4 := mulb (A := 40) (B := 65) (a := p.2) (b := x.1) (by omega) (by omega)
  unfold rotP
  simp only
  omega
theorem turnedEv (p x : Pt) (hp : (-40 ≤ p.1 ∧ p.1 ≤ 40) ∧ (-40 ≤ p.2 ∧ p.2 ≤ 40)) (hx : (0 ≤ x.1 ∧ x.1 ≤ 65) ∧ (0 ≤ x.2 ∧ x.2 ≤ 65)) : Ev (fun n => l06Turned n p.1 p.2 x.1 x.2) (16 * (rotP p x.1 x.2).1, 16 * (rotP p x.1 x.2).2) := by
  have m1 := mulb (A := 40) (B := 65) (a := p.1) (b := x.1) (by omega) (by omega)
  have m2 := mulb (A := 40) (B := 65) (a := p.2) (b := x.2) (by omega) (by omega)
  have m3 := mulb (A := 40) (B := 65) (a := p.1) (b := x.2) (by omega) (by omega)
  have m4 := mulb (A := 40) (B := 65) (a := p.2) (b := x.1) (by omega) (by omega)
  have r := rot_bd p x hp hx
  have w1 : IntKind.i64.wrap (p.1 * x.1) = p.1 * x.1 := w64 (by omega) (by omega)
  have w2 : IntKind.i64.wrap (p.2 * x.2) = p.2 * x.2 := w64 (by omega) (by omega)
  have w3 : IntKind.i64.wrap (p.1 * x.2) = p.1 * x.2 := w64 (by omega) (by omega)
  have w4 : IntKind.i64.wrap (p.2 * x.1) = p.2 * x.1 := w64 (by omega) (by omega)
  have w5 : IntKind.i64.wrap (p.1 * x.1 - p.2 * x.2) = (rotP p x.1 x.2).1 := w64 (by omega) (by omega)
  have w6 : IntKind.i64.wrap (p.1 * x.2 + p.2 * x.1) = (rotP p x.1 x.2).2 := w64 (by omega) (by omega)
  have w7 : IntKind.i64.wrap (16 * (rotP p x.1 x.2).1) = 16 * (rotP p x.1 x.2).1 := w64 (by omega) (by omega)
  have w8 : IntKind.i64.wrap (16 * (rotP p x.1 x.2).2) = 16 * (rotP p x.1 x.2).2 := w64 (by omega) (by omega)
  refine Ev.of_eq 1 ?_
  simp only [l06TurnedEq, w1, w2, w3, w4, w5, w6, w7, w8]
  exact Ev.bind (atEv _ _) (Ev.pure _)
def arm (o x : Pt) (z : Pt) : Pt := (o.1 + 16 * (rotP (p41 z) x.1 x.2).1, o.2 + 16 * (rotP (p41 z) x.1 x.2).2)
theorem arm_bd {o x : Pt} (ho : (-16000 ≤ o.1 ∧ o.1 ≤ 16000) ∧ (-16000 ≤ o.2 ∧ o.2 ≤ 16000)) (hx : (0 ≤ x.1 ∧ x.1 ≤ 65) ∧ (0 ≤ x.2 ∧ x.2 ≤ 65)) (z : Pt) : (-100000 ≤ (arm o x z).1 ∧ (arm o x z).1 ≤ 100000) ∧ (-100000 ≤ (arm o x z).2 ∧ (arm o x z).2 ≤ 100000) := by
  have r := rot_bd (p41 z) x ⟨t41_bd _, t41_bd _⟩ hx
  unfold arm
  simp only
  omega
theorem arcL9 (l : List Pt) (nn mm q : Int) (up : Bool) (o x y : Pt) (ho : (-16000 ≤ o.1 ∧ o.1 ≤ 16000) ∧ (-16000 ≤ o.2 ∧ o.2 ≤ 16000)) (hx : (0 ≤ x.1 ∧ x.1 ≤ 65) ∧ (0 ≤ x.2 ∧ x.2 ≤ 65)) (hy : (0 ≤ y.1 ∧ y.1 ≤ 65) ∧ (0 ≤ y.2 ∧ y.2 ≤ 65)) :
    ∀ (r : List Pt) (i : Nat) (a b : List Pt), (l.take 12).drop i = r → i ≤ (l.take 12).length → a.length = i → b.length = i →
    Ev (fun n => l06SweepArcL9 n ((l, (nn, (mm, (up, ((), (q, ((), ((), (a, (b, (((i : Nat) : Int), ()))))))))))), ((), ((o.1, (o.2, ())), ((x.1, (x.2, ())), ((y.1, (y.2, ())), ()))))))
      ((nn, (mm, (up, ((), (q, (a ++ r.map (arm o x), (b ++ r.map (arm o y), ()))))))), ((), ((o.1, (o.2, ())), ()))) := by
  intro r
  induction r with
  | nil =>
    intro i a b h1 hi ha hb
    have h2 := gdrop_nil h1
    rw [List.length_take] at h2 hi
    refine Ev.of_eq 1 ?_
    by_cases c : i < l.length
    · have c1 : ((i : Nat) : Int) < ((l.length : Nat) : Int) := by omega
      have c2 : ¬ ((i : Nat) : Int) < 12 := by omega
      simp only [l06SweepArcL9Eq, br_pos c1, br_neg c2]
      exact (Ev.pure _).congr (by simp)
    · have c1 : ¬ ((i : Nat) : Int) < ((l.length : Nat) : Int) := by omega
      simp only [l06SweepArcL9Eq, br_neg c1]
      exact (Ev.pure _).congr (by simp)
  | cons z r ih =>
    intro i a b h1 hi ha hb
    obtain ⟨g1, g2, g3⟩ := gdrop h1
    rw [List.length_take] at g3
    have g1' : l[i]? = some z := by rw [List.getElem?_take] at g1; split at g1; exact g1; cases g1
    have c1 : ((i : Nat) : Int) < ((l.length : Nat) : Int) := by omega
    have c2 : ((i : Nat) : Int) < 12 := by omega
    have c3 : (0 : Int) ≤ ((i : Nat) : Int) := by omega
    have hp : (-40 ≤ (p41 z).1 ∧ (p41 z).1 ≤ 40) ∧ (-40 ≤ (p41 z).2 ∧ (p41 z).2 ≤ 40) := ⟨t41_bd _, t41_bd _⟩
    have r1 := rot_bd (p41 z) x hp hx
    have r2 := rot_bd (p41 z) y hp hy
    have w1 : IntKind.i64.wrap (o.1 + 16 * (rotP (p41 z) x.1 x.2).1) = (arm o x z).1 := w64 (by omega) (by omega)
    have w2 : IntKind.i64.wrap (o.2 + 16 * (rotP (p41 z) x.1 x.2).2) = (arm o x z).2 := w64 (by omega) (by omega)
    have w3 : IntKind.i64.wrap (o.1 + 16 * (rotP (p41 z) y.1 y.2).1) = (arm o y z).1 := w64 (by omega) (by omega)
    have w4 : IntKind.i64.wrap (o.2 + 16 * (rotP (p41 z) y.1 y.2).2) = (arm o y z).2 := w64 (by omega) (by omega)
    have k1 : (a.length + [((arm o x z).1, (arm o x z).2)].length) * 16 ≤ 140737488355328 := by simp only [List.length_cons, List.length_nil]; omega
    have k2 : (b.length + [((arm o y z).1, (arm o y z).2)].length) * 16 ≤ 140737488355328 := by simp only [List.length_cons, List.length_nil]; omega
    refine Ev.of_eq 1 ?_
    simp only [l06SweepArcL9Eq, br_pos c1, br_pos c2, br_pos c3, Int.toNat_natCast, g1', Option.bind_some]
    refine Ev.bind (atEv (z.1.tmod 41) (z.2.tmod 41)) (Ev.bind (turnedEv (p41 z) x hp hx) (Ev.bind (turnedEv (p41 z) y hp hy) ?_))
    simp only [w1, w2, w3, w4]
    refine Ev.bind (atEv _ _) ?_
    simp only [br_pos k1]
    refine Ev.bind (atEv _ _) ?_
    simp only [br_pos k2, wr1 i (by omega)]
    refine (ih (i + 1) (a ++ [arm o x z]) (b ++ [arm o y z]) g2 (by rw [List.length_take]; omega) (by simp [ha]) (by simp [hb])).congr ?_
    simp
end Go.Sw
