import Derived.Test.YtgjaamjbagoieaaBHuJ3
set_option linter.unusedVariables false
set_option linter.unusedSimpArgs false
set_option linter.unnecessarySimpa false
/-
  The directions at a corner, from the other side.
-/
namespace Go.Hu
set_option maxHeartbeats 4000000 in
theorem ls2 {v u w y : Pt} (h : 0 < side v y u) (k : side v w u < 0 ∨ side v y w < 0) : sec v u w y = 1 := by
  have e1 := vec_1 v y u w
  have e2 := vec_2 v y u w
  have f1 := side_flip v u w
  have f2 := side_flip v w y
  have f3 := side_flip v u y
  have d1 := side_def v y u
  unfold sec luu luy
  generalize side v u w = C at *
  generalize side v w y = B at *
  generalize side v w u = C' at *
  generalize side v y w = B' at *
  generalize side v u y = A' at *
  generalize side v y u = A at *
  obtain ⟨u1, u2⟩ := u
  obtain ⟨w1, w2⟩ := w
  obtain ⟨y1, y2⟩ := y
  obtain ⟨v1, v2⟩ := v
  simp only at *
  generalize hu2 : u2 - v2 = U2 at *
  generalize hw2 : w2 - v2 = W2 at *
  generalize hy2 : y2 - v2 = Y2 at *
  generalize hu1 : u1 - v1 = U1 at *
  generalize hw1 : w1 - v1 = W1 at *
  generalize hy1 : y1 - v1 = Y1 at *
  rcases sg2 B U2 with g2 | g2 | g2 | g2 | g2 | g2 | g2 | g2 | g2 <;> rcases sg2 C Y2 with g3 | g3 | g3 | g3 | g3 | g3 | g3 | g3 | g3 <;> (try (exfalso; omega)) <;>
  rcases sgp h W2 with g1 | g1 | g1 <;> (try (exfalso; omega)) <;>
  first
  | (split <;> split <;> (try split) <;> (try split) <;> omega)
  | (rcases sg2 Y2 U1 with g6 | g6 | g6 | g6 | g6 | g6 | g6 | g6 | g6 <;> (try (exfalso; omega)) <;>
     rcases sg2 Y1 U2 with g7 | g7 | g7 | g7 | g7 | g7 | g7 | g7 | g7 <;> (try (exfalso; omega)) <;>
     rcases sg2 B U1 with g4 | g4 | g4 | g4 | g4 | g4 | g4 | g4 | g4 <;> (try (exfalso; omega)) <;>
     rcases sg2 C Y1 with g8 | g8 | g8 | g8 | g8 | g8 | g8 | g8 | g8 <;> (try (exfalso; omega)) <;>
     rcases sgp h W1 with g5 | g5 | g5 <;> (try (exfalso; omega)) <;>
     (split <;> split <;> (try split) <;> (try split) <;> omega))

/-- In one direction: one of the two points lies on the other's segment. -/
theorem same_dir {v a b : Pt} (h : side v a b = 0) (k : a.2 < v.2 ∧ b.2 < v.2 ∨ v.2 < a.2 ∧ v.2 < b.2) : On v a b ∨ On v b a := by
  have e1 : side a v b = 0 := by rw [side_swap]; omega
  have e2 : side b v a = 0 := by have := side_cyc v a b; have := side_cyc a b v; omega
  have e3 : side v b a = 0 := by rw [side_flip]; omega
  rcases k with k | k
  · by_cases g : a.2 ≤ b.2
    · exact .inl (on_comm.1 (on_height e1 g (by omega) (by omega)))
    · exact .inr (on_comm.1 (on_height e2 (by omega) (by omega) (by omega)))
  · by_cases g : a.2 ≤ b.2
    · exact .inr (on_height e3 (by omega) g (by omega))
    · exact .inl (on_height h (by omega) (by omega) (by omega))
theorem hor_dir {v a b : Pt} (h1 : a.2 = v.2) (h2 : b.2 = v.2) (k : a.1 ≤ v.1 ∧ b.1 ≤ v.1 ∨ v.1 ≤ a.1 ∧ v.1 ≤ b.1) : On v a b ∨ On v b a := by
  have z : side v a b = 0 := by unfold side; rw [h1, h2]; simp
  have z' : side v b a = 0 := by unfold side; rw [h1, h2]; simp
  rcases Int.lt_or_le a.1 b.1 with g | g <;> unfold On <;> rw [z, z'] <;> omega
theorem hor_side {v a b : Pt} (h : a.2 = v.2) : side v a b = (a.1 - v.1) * (b.2 - v.2) := by unfold side; rw [h]; simp
theorem hor_side' {v a b : Pt} (h : b.2 = v.2) : side v a b = (v.2 - a.2) * (b.1 - v.1) := by unfold side; rw [h]; grind
theorem c_one {v u w : Pt} (h : ¬ On v u w) (k : ¬ On v w u) : low v w - luy v u w + luu v u w = lowx v w := by
  have hs : side v u w = 0 → ¬ (u.2 < v.2 ∧ w.2 < v.2) := fun e g => (same_dir e (.inl g)).elim h k
  have hw : ¬ (w.2 = v.2 ∧ w.1 = v.1) := fun g => h ((Prod.ext g.2 g.1 : w = v) ▸ on_l v u)
  have hu : ¬ (u.2 = v.2 ∧ u.1 = v.1) := fun g => k ((Prod.ext g.2 g.1 : u = v) ▸ on_l v w)
  by_cases e : w.2 = v.2
  · have d := hor_side' (a := u) e
    by_cases e2 : u.2 = v.2
    · have d2 := hor_side (b := w) e2
      have z : side v u w = 0 := by rw [d, e2]; simp
      have q : ¬ (u.1 ≤ v.1 ∧ w.1 ≤ v.1 ∨ v.1 ≤ u.1 ∧ v.1 ≤ w.1) := fun g => (hor_dir e2 e g).elim h k
      unfold low luy luu lowx
      rw [z]
      split <;> split <;> (try split) <;> (try split) <;> (try split) <;> (try split) <;> omega
    · unfold low luy luu lowx
      rcases sg2 (v.2 - u.2) (w.1 - v.1) with g | g | g | g | g | g | g | g | g <;> (try (exfalso; omega)) <;> rw [d] <;>
      split <;> split <;> (try split) <;> (try split) <;> (try split) <;> (try split) <;> omega
  · by_cases e2 : u.2 = v.2
    · have d := hor_side (b := w) e2
      rcases sg2 (u.1 - v.1) (w.2 - v.2) with g | g | g | g | g | g | g | g | g <;> (try (exfalso; omega)) <;>
      unfold low luy luu lowx <;> rw [d] <;>
      split <;> split <;> (try split) <;> (try split) <;> (try split) <;> (try split) <;> omega
    · unfold low luy luu lowx
      split <;> split <;> (try split) <;> (try split) <;> (try split) <;> (try split) <;> omega
theorem c_two {v u w : Pt} (h : ¬ On v u w) (k : ¬ On v w u) : luu v u w + luu v w u = 1 := by
  have hs : side v u w = 0 → ¬ (u.2 < v.2 ∧ w.2 < v.2 ∨ v.2 < u.2 ∧ v.2 < w.2) := fun e g => (same_dir e g).elim h k
  have hw : ¬ (w.2 = v.2 ∧ w.1 = v.1) := fun g => h ((Prod.ext g.2 g.1 : w = v) ▸ on_l v u)
  have hu : ¬ (u.2 = v.2 ∧ u.1 = v.1) := fun g => k ((Prod.ext g.2 g.1 : u = v) ▸ on_l v w)
  have f := side_flip v w u
  by_cases e : w.2 = v.2
  · have d := hor_side' (a := u) e
    by_cases e2 : u.2 = v.2
    · have z : side v u w = 0 := by rw [d, e2]; simp
      have q : ¬ (u.1 ≤ v.1 ∧ w.1 ≤ v.1 ∨ v.1 ≤ u.1 ∧ v.1 ≤ w.1) := fun g => (hor_dir e2 e g).elim h k
      unfold luu
      rw [f, z]
      split <;> split <;> (try split) <;> (try split) <;> (try split) <;> (try split) <;> omega
    · rcases sg2 (v.2 - u.2) (w.1 - v.1) with g | g | g | g | g | g | g | g | g <;> (try (exfalso; omega)) <;>
      unfold luu <;> rw [f, d] <;>
      split <;> split <;> (try split) <;> (try split) <;> (try split) <;> (try split) <;> omega
  · by_cases e2 : u.2 = v.2
    · have d := hor_side (b := w) e2
      rcases sg2 (u.1 - v.1) (w.2 - v.2) with g | g | g | g | g | g | g | g | g <;> (try (exfalso; omega)) <;>
      unfold luu <;> rw [f, d] <;>
      split <;> split <;> (try split) <;> (try split) <;> (try split) <;> (try split) <;> omega
    · unfold luu
      rw [f]
      split <;> split <;> (try split) <;> (try split) <;> (try split) <;> (try split) <;> omega
theorem sec_swap {v u w y : Pt} (h : ¬ On v u w) (k : ¬ On v w u) : sec v u w y + sec v w u y = 1 := by
  have := c_two h k
  unfold sec
  omega
theorem rs1 {v u w y : Pt} (o1 : ¬ On v u w) (o2 : ¬ On v w u) (h : 0 < side v y w) (k : side v u w < 0 ∨ side v y u < 0) : sec v u w y = 0 := by
  have a := sec_swap (y := y) o1 o2
  have b := ls2 (u := w) (w := u) h k
  omega
theorem rs2 {v u w y : Pt} (o1 : ¬ On v u w) (o2 : ¬ On v w u) (h : 0 < side v u y) (k : side v u w < 0 ∨ side v w y < 0) : sec v u w y = 0 := by
  have a := sec_swap (y := y) o1 o2
  have b := ls1 (u := w) (w := u) h k
  omega
theorem lowx_swap {v w : Pt} (h : v ≠ w) : lowx v w + lowx w v = 1 := by
  have : ¬ (v.1 = w.1 ∧ v.2 = w.2) := fun g => h (Prod.ext g.1 g.2)
  unfold lowx
  split <;> split <;> omega
end Go.Hu
