import Derived.Test.YtlgocmlcniindaaBHuLaws
set_option linter.unusedVariables false
set_option linter.unusedSimpArgs false
set_option linter.unnecessarySimpa false
/-
  The arc of a corner lies in the hull of its ends and its outer point.
-/
namespace Go.Hu
/-- p turned by (x, y), without the factor 16. -/
def rotP (p : Pt) (x y : Int) : Pt := (p.1 * x - p.2 * y, p.1 * y + p.2 * x)
def arcW (u : Pt) (h k : Int) : Pt := (u.1 * (h * h - k * k) - u.2 * 2 * h * k, u.2 * (h * h - k * k) + u.1 * 2 * h * k)

theorem nonneg_left {a b : Int} (ha : 0 < a) (h : 0 ≤ a * b) : 0 ≤ b := by
  rcases Int.lt_or_le b 0 with k | k
  · have := Int.mul_neg_of_pos_of_neg ha k
    omega
  · exact k
/-- What weighs the ends and the outer point. -/
theorem weights {c s h k : Int} (hcs : c * c + s * s = 4225 * 4225) (hs : 0 < s) (hc : 0 < 4225 + c) (hc2 : c ≤ 4225) (hc3 : 8 * (4225 - c) ≤ 4225 + c) (hc4 : 18 * (4225 - c) ≤ 16900) (hh : 0 < h) (hk : 0 ≤ k) (hway : k * (4225 + c) ≤ h * s) :
    0 ≤ h * (4225 - c) - s * k ∧ 0 ≤ s * (h * h - k * k) - 2 * h * k * c - 9 * k * (h * (4225 - c) - s * k) ∧ 0 ≤ 8450 * h * k - 9 * k * (h * (4225 - c) - s * k) := by
  have e1 : 0 ≤ h * (4225 - c) - s * k := by
    apply nonneg_left hc
    have := Int.mul_nonneg (Int.le_of_lt hs) (show 0 ≤ h * s - k * (4225 + c) by omega)
    have e : (4225 + c) * (h * (4225 - c) - s * k) = s * (h * s - k * (4225 + c)) := by grind
    rw [e]; exact this
  refine ⟨e1, ?_, ?_⟩
  · apply nonneg_left hc
    have e : (4225 + c) * (s * (h * h - k * k) - 2 * h * k * c - 9 * k * (h * (4225 - c) - s * k)) = (h * s - k * (4225 + c)) * ((4225 + c) * h - 8 * (s * k)) := by grind
    rw [e]
    refine Int.mul_nonneg (by omega) ?_
    have p := Int.mul_nonneg (Int.le_of_lt hh) (show 0 ≤ (4225 + c) - 8 * (4225 - c) by omega)
    have e' : (4225 + c) * h - 8 * (s * k) = h * ((4225 + c) - 8 * (4225 - c)) + 8 * (h * (4225 - c) - s * k) := by grind
    omega
  · have p := Int.mul_nonneg (Int.mul_nonneg (Int.le_of_lt hh) hk) (show 0 ≤ 16900 - 18 * (4225 - c) by omega)
    have q := Int.mul_nonneg (Int.mul_nonneg hk hk) (Int.le_of_lt hs)
    have e : 2 * (8450 * h * k - 9 * k * (h * (4225 - c) - s * k)) = h * k * (16900 - 18 * (4225 - c)) + 18 * (k * k * s) := by grind
    omega
theorem arc_id (u v : Pt) (c s h k f0 l1 l2 : Int) (hv1 : 4225 * v.1 = c * u.1 - s * u.2) (hv2 : 4225 * v.2 = c * u.2 + s * u.1) :
    s * ((h * h + k * k) * f0 + (l1 * (arcW (16 * u.1, 16 * u.2) h k).2 - l2 * (arcW (16 * u.1, 16 * u.2) h k).1)) =
      (s * (h * h - k * k) - 2 * h * k * c - 9 * k * (h * (4225 - c) - s * k)) * (f0 + 16 * (l1 * u.2 - l2 * u.1)) + (8450 * h * k - 9 * k * (h * (4225 - c) - s * k)) * (f0 + 16 * (l1 * v.2 - l2 * v.1)) +
      16 * k * (h * (4225 - c) - s * k) * (f0 + 9 * (l1 * u.2 - l2 * u.1) + 9 * (l1 * v.2 - l2 * v.1)) := by
  unfold arcW
  grind
/-- On the good side of a line: the ends, the outer point; so the arc. -/
theorem arc_side {u v a b o : Pt} {c s h k : Int} (hcs : c * c + s * s = 4225 * 4225) (hs : 0 < s) (hc : 0 < 4225 + c) (hc2 : c ≤ 4225) (hc3 : 8 * (4225 - c) ≤ 4225 + c) (hc4 : 18 * (4225 - c) ≤ 16900) (hh : 0 < h) (hk : 0 ≤ k) (hway : k * (4225 + c) ≤ h * s)
    (hv1 : 4225 * v.1 = c * u.1 - s * u.2) (hv2 : 4225 * v.2 = c * u.2 + s * u.1)
    (ha : 0 ≤ side a b (o.1 + 16 * u.1, o.2 + 16 * u.2)) (hb : 0 ≤ side a b (o.1 + 16 * v.1, o.2 + 16 * v.2)) (ho : 0 ≤ side a b (o.1 + 9 * (u.1 + v.1), o.2 + 9 * (u.2 + v.2))) :
    0 ≤ (b.1 - a.1) * ((arcW (16 * u.1, 16 * u.2) h k).2 + (h * h + k * k) * (o.2 - a.2)) - (b.2 - a.2) * ((arcW (16 * u.1, 16 * u.2) h k).1 + (h * h + k * k) * (o.1 - a.1)) := by
  obtain ⟨w1, w2, w3⟩ := weights hcs hs hc hc2 hc3 hc4 hh hk hway
  apply nonneg_left hs
  have e := arc_id u v c s h k (side a b o) (b.1 - a.1) (b.2 - a.2) hv1 hv2
  have g0 : (b.1 - a.1) * ((arcW (16 * u.1, 16 * u.2) h k).2 + (h * h + k * k) * (o.2 - a.2)) - (b.2 - a.2) * ((arcW (16 * u.1, 16 * u.2) h k).1 + (h * h + k * k) * (o.1 - a.1)) =
      (h * h + k * k) * side a b o + ((b.1 - a.1) * (arcW (16 * u.1, 16 * u.2) h k).2 - (b.2 - a.2) * (arcW (16 * u.1, 16 * u.2) h k).1) := by
    unfold side; grind
  have g1 : side a b (o.1 + 16 * u.1, o.2 + 16 * u.2) = side a b o + 16 * ((b.1 - a.1) * u.2 - (b.2 - a.2) * u.1) := by unfold side; grind
  have g2 : side a b (o.1 + 16 * v.1, o.2 + 16 * v.2) = side a b o + 16 * ((b.1 - a.1) * v.2 - (b.2 - a.2) * v.1) := by unfold side; grind
  have g3 : side a b (o.1 + 9 * (u.1 + v.1), o.2 + 9 * (u.2 + v.2)) = side a b o + 9 * ((b.1 - a.1) * u.2 - (b.2 - a.2) * u.1) + 9 * ((b.1 - a.1) * v.2 - (b.2 - a.2) * v.1) := by unfold side; grind
  rw [g0, e, ← g1, ← g2, ← g3]
  have q1 := Int.mul_nonneg w2 ha
  have q2 := Int.mul_nonneg w3 hb
  have q3 := Int.mul_nonneg (Int.mul_nonneg (show 0 ≤ 16 * k by omega) w1) ho
  omega
/-- Two turns of one point, whose numbers have length 65. -/
theorem rot_rel (p : Pt) (x1 x2 y1 y2 : Int) (hx : x1 * x1 + x2 * x2 = 4225) : 4225 * (rotP p y1 y2).1 = (x1 * y1 + x2 * y2) * (rotP p x1 x2).1 - (x1 * y2 - x2 * y1) * (rotP p x1 x2).2 ∧ 4225 * (rotP p y1 y2).2 = (x1 * y1 + x2 * y2) * (rotP p x1 x2).2 + (x1 * y2 - x2 * y1) * (rotP p x1 x2).1 := by
  unfold rotP
  constructor <;> grind
theorem outer_arc (o u v : Pt) : outerP o (o.1 + 16 * u.1, o.2 + 16 * u.2) (o.1 + 16 * v.1, o.2 + 16 * v.2) = (o.1 + 9 * (u.1 + v.1), o.2 + 9 * (u.2 + v.2)) := by
  unfold outerP outerC
  have e : ∀ a b c : Int, (9 * (a + 16 * b + (a + 16 * c) - 2 * a)).tdiv 16 = 9 * (b + c) := fun a b c => by
    rw [show 9 * (a + 16 * b + (a + 16 * c) - 2 * a) = 9 * (b + c) * 16 by omega]
    exact Int.mul_tdiv_cancel _ (by decide)
  simp only [e]
end Go.Hu
