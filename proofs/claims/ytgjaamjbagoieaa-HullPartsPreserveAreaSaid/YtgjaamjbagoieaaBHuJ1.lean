import Derived.Test.YtgjaamjbagoieaaBHuHas
set_option linter.unusedVariables false
set_option linter.unusedSimpArgs false
set_option linter.unnecessarySimpa false
/-
  Segments of the plane, and the crossing number along a segment.
-/
namespace Go.Hu

/-- p lies on the closed segment a b. -/
def On (a b p : Pt) : Prop := side a b p = 0 ∧ (a.1 ≤ p.1 ∧ p.1 ≤ b.1 ∨ b.1 ≤ p.1 ∧ p.1 ≤ a.1) ∧ (a.2 ≤ p.2 ∧ p.2 ≤ b.2 ∨ b.2 ≤ p.2 ∧ p.2 ≤ a.2)
/-- The two segments cross properly. -/
def Crs (a b c d : Pt) : Prop := (0 < side a b c ∧ side a b d < 0 ∨ side a b c < 0 ∧ 0 < side a b d) ∧ (0 < side c d a ∧ side c d b < 0 ∨ side c d a < 0 ∧ 0 < side c d b)
def Meet (a b c d : Pt) : Prop := On a b c ∨ On a b d ∨ On c d a ∨ On c d b ∨ Crs a b c d

theorem on_edge {a b p : Pt} : On a b p ↔ edgeB a b p = true := by
  unfold On edgeB mn mx
  simp only [Bool.and_eq_true, decide_eq_true_eq]
  constructor
  · rintro ⟨h1, h2, h3⟩
    refine ⟨h1, ?_, ?_, ?_, ?_⟩ <;> split <;> omega
  · rintro ⟨h1, h2, h3, h4, h5⟩
    refine ⟨h1, ?_, ?_⟩
    · split at h2 <;> split at h3 <;> omega
    · split at h4 <;> split at h5 <;> omega
theorem on_l (a b : Pt) : On a b a := on_edge.2 (edge_self a b)
theorem on_comm {a b p : Pt} : On a b p ↔ On b a p := by
  unfold On
  rw [side_swap b a p]
  omega
theorem on_r (a b : Pt) : On a b b := on_comm.1 (on_l b a)
theorem crs_comm {a b c d : Pt} : Crs a b c d ↔ Crs c d a b := by unfold Crs; omega
theorem crs_swap {a b c d : Pt} : Crs a b c d ↔ Crs b a c d := by
  unfold Crs
  rw [side_swap b a c, side_swap b a d]
  omega
theorem crs_swap' {a b c d : Pt} : Crs a b c d ↔ Crs a b d c := by rw [crs_comm, crs_swap, crs_comm]
theorem meet_comm {a b c d : Pt} : Meet a b c d ↔ Meet c d a b := by
  unfold Meet; rw [crs_comm]
  constructor <;> (rintro (h | h | h | h | h) <;> simp [h])
theorem meet_swap {a b c d : Pt} : Meet a b c d ↔ Meet b a c d := by
  unfold Meet
  rw [crs_swap, on_comm (a := a) (b := b), on_comm (a := a) (b := b)]
  constructor <;> (rintro (h | h | h | h | h) <;> simp [h])
theorem meet_swap' {a b c d : Pt} : Meet a b c d ↔ Meet a b d c := by rw [meet_comm, meet_swap, meet_comm]

theorem pp {a b : Int} (h : 0 < a) (k : 0 < b) : 0 < a * b := Int.mul_pos h k
theorem pn {a b : Int} (h : 0 < a) (k : b < 0) : a * b < 0 := Int.mul_neg_of_pos_of_neg h k
theorem np {a b : Int} (h : a < 0) (k : 0 < b) : a * b < 0 := Int.mul_neg_of_neg_of_pos h k
theorem nn {a b : Int} (h : a < 0) (k : b < 0) : 0 < a * b := Int.mul_pos_of_neg_of_neg h k
theorem pp0 {a b : Int} (h : 0 ≤ a) (k : 0 ≤ b) : 0 ≤ a * b := Int.mul_nonneg h k
theorem pn0 {a b : Int} (h : 0 ≤ a) (k : b ≤ 0) : a * b ≤ 0 := Int.mul_nonpos_of_nonneg_of_nonpos h k
theorem np0 {a b : Int} (h : a ≤ 0) (k : 0 ≤ b) : a * b ≤ 0 := Int.mul_nonpos_of_nonpos_of_nonneg h k
theorem nn0 {a b : Int} (h : a ≤ 0) (k : b ≤ 0) : 0 ≤ a * b := Int.mul_nonneg_of_nonpos_of_nonpos h k
theorem posR {a b : Int} (h : 0 < a) (k : 0 < a * b) : 0 < b := by
  rcases Int.lt_or_le 0 b with g | g
  · exact g
  · have := pn0 (Int.le_of_lt h) g; omega
theorem negR {a b : Int} (h : 0 < a) (k : a * b < 0) : b < 0 := by
  rcases Int.lt_or_le b 0 with g | g
  · exact g
  · have := pp0 (Int.le_of_lt h) g; omega
theorem posN {a b : Int} (h : a < 0) (k : 0 < a * b) : b < 0 := by
  rcases Int.lt_or_le b 0 with g | g
  · exact g
  · have := np0 (Int.le_of_lt h) g; omega
theorem negN {a b : Int} (h : a < 0) (k : a * b < 0) : 0 < b := by
  rcases Int.lt_or_le 0 b with g | g
  · exact g
  · have := nn0 (Int.le_of_lt h) g; omega
theorem posL0 {a b : Int} (h : a ≤ 0) (k : 0 < a * b) : a < 0 ∧ b < 0 := by
  have : a < 0 := by
    rcases Int.lt_or_le a 0 with g | g
    · exact g
    · have : a = 0 := by omega
      rw [this] at k; simp at k
  exact ⟨this, posN this k⟩
theorem posR0 {a b : Int} (h : 0 ≤ a) (k : 0 < a * b) : 0 < a ∧ 0 < b := by
  have : 0 < a := by
    rcases Int.lt_or_le 0 a with g | g
    · exact g
    · have : a = 0 := by omega
      rw [this] at k; simp at k
  exact ⟨this, posR this k⟩

/-- The weights of two lines' common point. -/
theorem wt_id (a b c d m n : Pt) : side c d b * side m n a - side c d a * side m n b = side a b c * side m n d - side a b d * side m n c := by unfold side; grind
theorem wt_sum (a b c d : Pt) : side c d b - side c d a = side a b c - side a b d := by unfold side; grind
theorem wt_1 (a b c d : Pt) : side c d b * a.1 - side c d a * b.1 = side a b c * d.1 - side a b d * c.1 := by unfold side; grind
theorem wt_2 (a b c d : Pt) : side c d b * a.2 - side c d a * b.2 = side a b c * d.2 - side a b d * c.2 := by unfold side; grind

theorem on_height {a b x : Pt} (h : side a b x = 0) (h1 : a.2 ≤ x.2) (h2 : x.2 ≤ b.2) (h3 : a.2 < b.2) : On a b x := by
  have e : (b.2 - a.2) * (x.1 - a.1) = (x.2 - a.2) * (b.1 - a.1) := by unfold side at h; grind
  have := in_box (A := b.2 - a.2) (A' := x.2 - a.2) (by omega) (by omega) (by omega) e
  unfold mn mx at this
  refine ⟨h, ?_, .inl ⟨h1, h2⟩⟩
  revert this
  split <;> split <;> omega
/-- On one line, and the ends on either side of another one through the point. -/
theorem on_opp {a b x y : Pt} (h : side a b x = 0) (h1 : side x y a < 0) (h2 : 0 < side x y b) : On a b x := by
  have e1 : (side x y b - side x y a) * (x.1 - a.1) = (- side x y a) * (b.1 - a.1) := by
    have p : side x y b * (x.1 - a.1) - side x y a * (x.1 - b.1) = side a b x * (x.1 - y.1) := by unfold side; grind
    rw [h] at p
    grind
  have e2 : (side x y b - side x y a) * (x.2 - a.2) = (- side x y a) * (b.2 - a.2) := by
    have p : side x y b * (x.2 - a.2) - side x y a * (x.2 - b.2) = side a b x * (x.2 - y.2) := by unfold side; grind
    rw [h] at p
    grind
  have b1 := in_box (A := side x y b - side x y a) (A' := - side x y a) (by omega) (by omega) (by omega) e1
  have b2 := in_box (A := side x y b - side x y a) (A' := - side x y a) (by omega) (by omega) (by omega) e2
  exact on_edge.2 (by
    unfold edgeB
    simp only [Bool.and_eq_true, decide_eq_true_eq]
    exact ⟨h, b1.1, b1.2, b2.1, b2.2⟩)
theorem on_opp' {a b x y : Pt} (h : side a b x = 0) (h1 : 0 < side x y a) (h2 : side x y b < 0) : On a b x :=
  on_comm.1 (on_opp (by rw [side_swap]; omega) h2 h1)

/-! ### The crossing number along a segment -/
def cr (a b x : Pt) : Int := if a.2 ≤ x.2 ∧ x.2 < b.2 ∧ 0 < side a b x then 1 else if b.2 ≤ x.2 ∧ x.2 < a.2 ∧ side a b x < 0 then -1 else 0
def Rr (x y a : Pt) : Int := if y.2 < a.2 ∧ a.2 ≤ x.2 ∧ 0 < side x y a then 1 else if x.2 < a.2 ∧ a.2 ≤ y.2 ∧ side x y a < 0 then -1 else 0
theorem cr_swap (a b x : Pt) : cr b a x = - cr a b x := by
  unfold cr
  rw [side_swap b a x]
  split <;> split <;> (try split) <;> omega
theorem Rr_swap (x y a : Pt) : Rr y x a = - Rr x y a := by
  unfold Rr
  rw [side_swap y x a]
  split <;> split <;> (try split) <;> omega

theorem k_one {a b x y : Pt} (h1 : y.2 ≤ a.2) (h2 : a.2 ≤ x.2) (h3 : x.2 ≤ b.2) (h4 : a.2 < b.2) (h5 : y.2 < x.2) :
    (0 < side a b x → side x y a < 0 → side a b y < 0 ∧ 0 < side x y b) ∧ (side a b x < 0 → 0 < side x y a → 0 < side a b y ∧ side x y b < 0) := by
  have e1 := up_id a b x y a.2
  have e2 := up_id a b x y x.2
  rw [Int.sub_self, Int.zero_mul] at e1
  have z : x.2 - x.2 = 0 := Int.sub_self _
  rw [z, Int.zero_mul] at e2
  constructor
  · intro p u
    have q1 := np0 (show y.2 - a.2 ≤ 0 by omega) (Int.le_of_lt p)
    have q2 := pn (show 0 < b.2 - a.2 by omega) u
    have q3 := np (show y.2 - x.2 < 0 by omega) p
    have q4 := pn0 (show 0 ≤ b.2 - x.2 by omega) (Int.le_of_lt u)
    exact ⟨(posL0 (a := a.2 - x.2) (by omega) (by omega)).2, (posR0 (a := x.2 - a.2) (by omega) (by omega)).2⟩
  · intro p u
    have q1 := nn0 (show y.2 - a.2 ≤ 0 by omega) (Int.le_of_lt p)
    have q2 := pp (show 0 < b.2 - a.2 by omega) u
    have q3 := nn (show y.2 - x.2 < 0 by omega) p
    have q4 := pp0 (show 0 ≤ b.2 - x.2 by omega) (Int.le_of_lt u)
    have a1 : (x.2 - a.2) * side a b y = - ((a.2 - x.2) * side a b y) := by grind
    have a2 : (a.2 - x.2) * side x y b = - ((x.2 - a.2) * side x y b) := by grind
    have r1 := (posR0 (a := x.2 - a.2) (b := side a b y) (by omega) (by omega)).2
    have r2 := (posL0 (a := a.2 - x.2) (b := side x y b) (by omega) (by omega)).2
    exact ⟨r1, r2⟩
/-- Both ends of a b in the strip of x y: they lie on one side of it. -/
theorem k_two {a b x y : Pt} (h1 : y.2 ≤ a.2) (h2 : a.2 ≤ x.2) (h3 : y.2 ≤ b.2) (h4 : b.2 ≤ x.2) (h5 : y.2 < x.2) (u : side x y a < 0) (v : 0 < side x y b) : Meet a b x y := by
  have e1 := up_id a b x y x.2
  have e2 := up_id a b x y y.2
  have z : x.2 - x.2 = 0 := Int.sub_self _
  have z' : y.2 - y.2 = 0 := Int.sub_self _
  rw [z, Int.zero_mul] at e1
  rw [z', Int.zero_mul] at e2
  have q1 := nn0 (show b.2 - x.2 ≤ 0 by omega) (Int.le_of_lt u)
  have q2 := pp0 (show 0 ≤ x.2 - a.2 by omega) (Int.le_of_lt v)
  have q3 := pn0 (show 0 ≤ b.2 - y.2 by omega) (Int.le_of_lt u)
  have q4 := np0 (show y.2 - a.2 ≤ 0 by omega) (Int.le_of_lt v)
  have p0 : 0 ≤ side a b x := by
    rcases Int.lt_or_le (side a b x) 0 with g | g
    · have := nn (show y.2 - x.2 < 0 by omega) g; omega
    · exact g
  have p1 : side a b y ≤ 0 := by
    rcases Int.lt_or_le 0 (side a b y) with g | g
    · have := np (show y.2 - x.2 < 0 by omega) g; omega
    · exact g
  by_cases g1 : side a b x = 0
  · exact .inl (on_opp g1 u v)
  · by_cases g2 : side a b y = 0
    · refine .inr (.inl (on_opp' (y := x) g2 ?_ ?_))
      · rw [side_swap]; omega
      · rw [side_swap]; omega
    · exact .inr (.inr (.inr (.inr ⟨.inl ⟨by omega, by omega⟩, .inr ⟨u, v⟩⟩)))
