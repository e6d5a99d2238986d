import Derived.Test.YtgjaamjbagoieaaBHuJ2
set_option linter.unusedVariables false
set_option linter.unusedSimpArgs false
set_option linter.unnecessarySimpa false
/-
  The directions at a corner.
-/
namespace Go.Hu

def luu (v u w : Pt) : Int := if v.2 < u.2 then (if w.2 ≤ v.2 ∨ 0 < side v u w then 1 else 0) else (if w.2 ≤ v.2 ∧ (0 < side v u w ∨ side v u w = 0 ∧ u.1 < w.1) then 1 else 0)
def luy (v u y : Pt) : Int := if v.2 < u.2 then (if y.2 < v.2 ∨ 0 < side v u y then 1 else 0) else (if y.2 < v.2 ∧ 0 < side v u y then 1 else 0)
def low (v y : Pt) : Int := if y.2 < v.2 then 1 else 0
def lowx (v y : Pt) : Int := if y.2 < v.2 ∨ y.2 = v.2 ∧ v.1 < y.1 then 1 else 0
def sec (v u w y : Pt) : Int := luu v u w + luy v w y - luy v u y

theorem phi {v u y : Pt} (h : u.2 ≤ v.2 → y.2 < v.2 → side v u y ≠ 0) : cr u v y + Rr v y u = low v y - luy v u y := by
  have e1 : side u v y = - side v u y := side_swap _ _ _
  have e2 : side v y u = - side v u y := by rw [← e1, side_cyc u v y]
  unfold cr Rr low luy
  rw [e1, e2]
  by_cases a : v.2 < u.2
  · rw [if_pos a]
    split <;> split <;> split <;> (try split) <;> (try split) <;> omega
  · rw [if_neg a]
    split <;> split <;> split <;> (try split) <;> (try split) <;> omega

/-- The three directions' own law. -/
theorem vec_1 (v a b c : Pt) : side v a b * (c.1 - v.1) + side v b c * (a.1 - v.1) + side v c a * (b.1 - v.1) = 0 := by unfold side; grind
theorem vec_2 (v a b c : Pt) : side v a b * (c.2 - v.2) + side v b c * (a.2 - v.2) + side v c a * (b.2 - v.2) = 0 := by unfold side; grind
theorem side_flip (v a b : Pt) : side v a b = - side v b a := by unfold side; grind
theorem side_def (v a b : Pt) : side v a b = (a.1 - v.1) * (b.2 - v.2) - (a.2 - v.2) * (b.1 - v.1) := rfl
theorem sg (a b : Int) : (0 < a → 0 < b → 0 < a * b) ∧ (0 < a → b < 0 → a * b < 0) ∧ (a < 0 → 0 < b → a * b < 0) ∧ (a < 0 → b < 0 → 0 < a * b) ∧ (a = 0 → a * b = 0) ∧ (b = 0 → a * b = 0) :=
  ⟨pp, pn, np, nn, fun h => by rw [h, Int.zero_mul], fun h => by rw [h, Int.mul_zero]⟩
theorem sgn_cases (a : Int) : a < 0 ∨ a = 0 ∨ 0 < a := by omega

theorem sgp {a : Int} (h : 0 < a) (b : Int) : (b < 0 ∧ a * b < 0) ∨ (b = 0 ∧ a * b = 0) ∨ (0 < b ∧ 0 < a * b) := by
  rcases sgn_cases b with g | g | g
  · exact .inl ⟨g, pn h g⟩
  · exact .inr (.inl ⟨g, by rw [g, Int.mul_zero]⟩)
  · exact .inr (.inr ⟨g, pp h g⟩)
theorem sg2 (a b : Int) : (a < 0 ∧ b < 0 ∧ 0 < a * b) ∨ (a < 0 ∧ b = 0 ∧ a * b = 0) ∨ (a < 0 ∧ 0 < b ∧ a * b < 0) ∨ (a = 0 ∧ b < 0 ∧ a * b = 0) ∨ (a = 0 ∧ b = 0 ∧ a * b = 0) ∨ (a = 0 ∧ 0 < b ∧ a * b = 0) ∨
    (0 < a ∧ b < 0 ∧ a * b < 0) ∨ (0 < a ∧ b = 0 ∧ a * b = 0) ∨ (0 < a ∧ 0 < b ∧ 0 < a * b) := by
  rcases sgn_cases a with h | h | h <;> rcases sgn_cases b with g | g | g
  · have := nn h g; omega
  · have : a * b = 0 := by rw [g, Int.mul_zero]
    omega
  · have := np h g; omega
  · have : a * b = 0 := by rw [h, Int.zero_mul]
    omega
  · have : a * b = 0 := by rw [h, Int.zero_mul]
    omega
  · have : a * b = 0 := by rw [h, Int.zero_mul]
    omega
  · have := pn h g; omega
  · have : a * b = 0 := by rw [g, Int.mul_zero]
    omega
  · have := pp h g; omega
set_option maxHeartbeats 4000000 in
theorem ls1 {v u w y : Pt} (h : 0 < side v w y) (k : side v w u < 0 ∨ side v u y < 0) : sec v u w y = 1 := by
  have e1 := vec_1 v w y u
  have e2 := vec_2 v w y u
  have f1 := side_flip v u w
  have f2 := side_flip v u y
  have d1 := side_def v w y
  unfold sec luu luy
  generalize side v u w = C at *
  generalize side v y u = B at *
  generalize side v w u = C' at *
  generalize side v u y = B' at *
  generalize side v w y = A at *
  obtain ⟨u1, u2⟩ := u
  obtain ⟨w1, w2⟩ := w
  obtain ⟨y1, y2⟩ := y
  obtain ⟨v1, v2⟩ := v
  simp only at *
  generalize hu2 : u2 - v2 = U2 at *
  generalize hw2 : w2 - v2 = W2 at *
  generalize hy2 : y2 - v2 = Y2 at *
  generalize hu1 : u1 - v1 = U1 at *
  generalize hw1 : w1 - v1 = W1 at *
  generalize hy1 : y1 - v1 = Y1 at *
  rcases sg2 B W2 with g2 | g2 | g2 | g2 | g2 | g2 | g2 | g2 | g2 <;> rcases sg2 C Y2 with g3 | g3 | g3 | g3 | g3 | g3 | g3 | g3 | g3 <;> (try (exfalso; omega)) <;>
  rcases sgp h U2 with g1 | g1 | g1 <;> (try (exfalso; omega)) <;>
  first
  | (split <;> split <;> (try split) <;> (try split) <;> omega)
  | (rcases sg2 W2 Y1 with g6 | g6 | g6 | g6 | g6 | g6 | g6 | g6 | g6 <;> (try (exfalso; omega)) <;>
     rcases sg2 W1 Y2 with g7 | g7 | g7 | g7 | g7 | g7 | g7 | g7 | g7 <;> (try (exfalso; omega)) <;>
     rcases sg2 B W1 with g4 | g4 | g4 | g4 | g4 | g4 | g4 | g4 | g4 <;> (try (exfalso; omega)) <;>
     rcases sg2 C Y1 with g8 | g8 | g8 | g8 | g8 | g8 | g8 | g8 | g8 <;> (try (exfalso; omega)) <;>
     rcases sgp h U1 with g5 | g5 | g5 <;> (try (exfalso; omega)) <;>
     (split <;> split <;> (try split) <;> (try split) <;> omega))
end Go.Hu
