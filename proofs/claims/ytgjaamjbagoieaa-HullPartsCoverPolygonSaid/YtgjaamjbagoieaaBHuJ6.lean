import Derived.Test.YtgjaamjbagoieaaBHuJ5
set_option linter.unusedVariables false
set_option linter.unusedSimpArgs false
set_option linter.unnecessarySimpa false
/-
  Edges that keep apart; a triangle that holds no end of a segment.
-/
namespace Go.Hu

theorem on_line {a b p : Pt} (h : side a b p = 0) (hn : a.1 ≠ b.1) (k : a.1 ≤ p.1 ∧ p.1 ≤ b.1 ∨ b.1 ≤ p.1 ∧ p.1 ≤ a.1) : On a b p := by
  have key : ∀ {a b p : Pt}, side a b p = 0 → a.1 < b.1 → a.1 ≤ p.1 → p.1 ≤ b.1 → On a b p := fun {a b p} h h1 h2 h3 => by
    have e : (b.1 - a.1) * (p.2 - a.2) = (p.1 - a.1) * (b.2 - a.2) := by unfold side at h; grind
    have := in_box (A := b.1 - a.1) (A' := p.1 - a.1) (by omega) (by omega) (by omega) e
    unfold mn mx at this
    refine ⟨h, .inl ⟨h2, h3⟩, ?_⟩
    revert this
    split <;> split <;> omega
  by_cases c : a.1 < b.1
  · exact key h c (by omega) (by omega)
  · exact on_comm.1 (key (by rw [side_swap]; omega) (by omega) (by omega) (by omega))
theorem on_line2 {a b p : Pt} (h : side a b p = 0) (hn : a.2 ≠ b.2) (k : a.2 ≤ p.2 ∧ p.2 ≤ b.2 ∨ b.2 ≤ p.2 ∧ p.2 ≤ a.2) : On a b p := by
  by_cases c : a.2 < b.2
  · exact on_height h (by omega) (by omega) c
  · exact on_comm.1 (on_height (by rw [side_swap]; omega) (by omega) (by omega) (by omega))
theorem on_deg {a p : Pt} (h : On a a p) : p = a := by
  unfold On at h
  exact Prod.ext (by omega) (by omega)
/-- Two segments with a common point meet. -/
theorem meet_of {a b c d x : Pt} (h1 : On c d x) (h2 : On a b x) : Meet c d a b := by
  by_cases hab : a = b
  · subst hab
    rw [on_deg h2] at h1
    exact .inl h1
  · obtain ⟨s, t, p1, p2, p3, p4, p5⟩ := on_comb h1
    obtain ⟨s', t', q1, q2, q3, q4, q5⟩ := on_comb h2
    have z1 : side a b x = 0 := h2.1
    have z2 : side c d x = 0 := h1.1
    have e1 : s * side a b c + t * side a b d = 0 := by
      have : s * side a b c + t * side a b d = (s + t) * side a b x := by unfold side; grind
      rw [z1, Int.mul_zero] at this; exact this
    have e2 : s' * side c d a + t' * side c d b = 0 := by
      have : s' * side c d a + t' * side c d b = (s' + t') * side c d x := by unfold side; grind
      rw [z2, Int.mul_zero] at this; exact this
    have ends : ∀ {p q x : Pt} {s t : Int}, 0 < s + t → (s + t) * x.1 = s * p.1 + t * q.1 → (s + t) * x.2 = s * p.2 + t * q.2 → t = 0 → x = p := fun {p q x s t} a b c d => by
      subst d
      have k1 : s * (x.1 - p.1) = 0 := by grind
      have k2 : s * (x.2 - p.2) = 0 := by grind
      have := Int.mul_eq_zero.1 k1
      have := Int.mul_eq_zero.1 k2
      exact Prod.ext (by omega) (by omega)
    have ends' : ∀ {p q x : Pt} {s t : Int}, 0 < s + t → (s + t) * x.1 = s * p.1 + t * q.1 → (s + t) * x.2 = s * p.2 + t * q.2 → s = 0 → x = q := fun {p q x s t} a b c d =>
      ends (q := p) (s := t) (t := s) (by omega) (by rw [Int.add_comm t s, b, Int.add_comm]) (by rw [Int.add_comm t s, c, Int.add_comm]) d
    by_cases cU : side a b c = 0
    · by_cases cV : side a b d = 0
      · have w0 := wt_sum c d a b
        have w1 := wt_1 c d a b
        have w2 := wt_2 c d a b
        rw [cU, cV] at w1 w2 w0
        have r1 := wt_1 a b c d
        have r2 := wt_2 a b c d
        have r0 := wt_sum a b c d
        rw [cU, cV] at r1 r2 r0
        have f1 : side c d a * (a.1 - b.1) = 0 := by grind
        have f2 : side c d a * (a.2 - b.2) = 0 := by grind
        have fa : side c d a = 0 := by
          rcases Int.mul_eq_zero.1 f1 with g | g
          · exact g
          · rcases Int.mul_eq_zero.1 f2 with g' | g'
            · exact g'
            · exact absurd (Prod.ext (by omega) (by omega)) hab
        have fb : side c d b = 0 := by omega
        by_cases ha1 : a.1 = b.1
        · have ha2 : a.2 ≠ b.2 := fun e => hab (Prod.ext ha1 e)
          have i1 := h1.2.2
          have i2 := h2.2.2
          by_cases g1 : a.2 ≤ c.2 ∧ c.2 ≤ b.2 ∨ b.2 ≤ c.2 ∧ c.2 ≤ a.2
          · exact .inr (.inr (.inl (on_line2 cU ha2 g1)))
          · by_cases g2 : a.2 ≤ d.2 ∧ d.2 ≤ b.2 ∨ b.2 ≤ d.2 ∧ d.2 ≤ a.2
            · exact .inr (.inr (.inr (.inl (on_line2 cV ha2 g2))))
            · exact .inl (on_line2 fa (by omega) (by omega))
        · have i1 := h1.2.1
          have i2 := h2.2.1
          by_cases g1 : a.1 ≤ c.1 ∧ c.1 ≤ b.1 ∨ b.1 ≤ c.1 ∧ c.1 ≤ a.1
          · exact .inr (.inr (.inl (on_line cU ha1 g1)))
          · by_cases g2 : a.1 ≤ d.1 ∧ d.1 ≤ b.1 ∨ b.1 ≤ d.1 ∧ d.1 ≤ a.1
            · exact .inr (.inr (.inr (.inl (on_line cV ha1 g2))))
            · exact .inl (on_line fa (by omega) (by omega))
      · rw [cU, Int.mul_zero, Int.zero_add] at e1
        have ht : t = 0 := by
          rcases Int.mul_eq_zero.1 e1 with g | g
          · exact g
          · exact absurd g cV
        have := ends p3 p4 p5 ht
        subst this
        exact .inr (.inr (.inl h2))
    · by_cases cV : side a b d = 0
      · rw [cV, Int.mul_zero, Int.add_zero] at e1
        have hs : s = 0 := by
          rcases Int.mul_eq_zero.1 e1 with g | g
          · exact g
          · exact absurd g cU
        have := ends' p3 p4 p5 hs
        subst this
        exact .inr (.inr (.inr (.inl h2)))
      · by_cases cP : side c d a = 0
        · rw [cP, Int.mul_zero, Int.zero_add] at e2
          rcases Int.mul_eq_zero.1 e2 with g | g
          · have := ends q3 q4 q5 g
            subst this
            exact .inl h1
          · have := wt_1 a b c d
            have := wt_sum a b c d
            have r1 := wt_1 c d a b
            have r2 := wt_2 c d a b
            have r0 := wt_sum c d a b
            rw [cP, g] at r0 r1 r2
            have f1 : side a b c * (c.1 - d.1) = 0 := by grind
            have f2 : side a b c * (c.2 - d.2) = 0 := by grind
            have k1 := (Int.mul_eq_zero.1 f1).resolve_left cU
            have k2 := (Int.mul_eq_zero.1 f2).resolve_left cU
            have : c = d := Prod.ext (by omega) (by omega)
            subst this
            rw [on_deg h1] at h2
            exact .inr (.inr (.inl h2))
        · by_cases cQ : side c d b = 0
          · rw [cQ, Int.mul_zero, Int.add_zero] at e2
            have hs := (Int.mul_eq_zero.1 e2).resolve_right cP
            have := ends' q3 q4 q5 hs
            subst this
            exact .inr (.inl h1)
          · refine .inr (.inr (.inr (.inr ⟨?_, ?_⟩)))
            · rcases sg2 s' (side c d a) with g | g | g | g | g | g | g | g | g <;> rcases sg2 t' (side c d b) with k | k | k | k | k | k | k | k | k <;> omega
            · rcases sg2 s (side a b c) with g | g | g | g | g | g | g | g | g <;> rcases sg2 t (side a b d) with k | k | k | k | k | k | k | k | k <;> omega

/-- Edges of one polygon keep apart: only where one ends and the other begins may they touch. -/
def NX (c d a b : Pt) : Prop := (On c d a → a = d) ∧ (On c d b → b = c) ∧ (On a b c → c = b) ∧ (On a b d → d = a) ∧ ¬ Crs c d a b
theorem nx_comm {c d a b : Pt} (h : NX c d a b) : NX a b c d := ⟨h.2.2.1, h.2.2.2.1, h.1, h.2.1, fun k => h.2.2.2.2 (crs_comm.1 k)⟩
theorem nx_meet {c d a b : Pt} (h : NX c d a b) (h1 : c ≠ b) (h2 : d ≠ a) : ¬ Meet c d a b := by
  rintro (k | k | k | k | k)
  · exact h2 (h.1 k).symm
  · exact h1 (h.2.1 k).symm
  · exact h1 (h.2.2.1 k)
  · exact h2 (h.2.2.2.1 k)
  · exact h.2.2.2.2 k
theorem meet_nx {c d a b : Pt} (h : ¬ Meet c d a b) : NX c d a b :=
  ⟨fun k => (h (.inl k)).elim, fun k => (h (.inr (.inl k))).elim, fun k => (h (.inr (.inr (.inl k)))).elim, fun k => (h (.inr (.inr (.inr (.inl k))))).elim, fun k => h (.inr (.inr (.inr (.inr k))))⟩
/-- Two segments from one point with another point in common: one holds the other's end. -/
theorem on_two {v a b x : Pt} (h1 : On v a x) (h2 : On v b x) (hx : x ≠ v) : On v a b ∨ On v b a := by
  have z1 : side v a x = 0 := h1.1
  have z2 : side v b x = 0 := h2.1
  have e1 := vec_1 v a b x
  have e2 := vec_2 v a b x
  have f1 : side v b x = 0 := z2
  have f2 : side v x a = 0 := by rw [side_flip]; omega
  rw [f1, f2] at e1 e2
  have z : side v a b = 0 := by
    have k1 : side v a b * (x.1 - v.1) = 0 := by omega
    have k2 : side v a b * (x.2 - v.2) = 0 := by omega
    rcases Int.mul_eq_zero.1 k1 with g | g
    · exact g
    · rcases Int.mul_eq_zero.1 k2 with g' | g'
      · exact g'
      · exact absurd (Prod.ext (by omega) (by omega)) hx
  have z' : side v b a = 0 := by rw [side_flip]; omega
  have i1 := h1.2
  have i2 := h2.2
  by_cases c : x.1 = v.1
  · have c2 : x.2 ≠ v.2 := fun e => hx (Prod.ext c e)
    by_cases g : v.2 ≤ b.2 ∧ b.2 ≤ a.2 ∨ a.2 ≤ b.2 ∧ b.2 ≤ v.2
    · exact .inl (on_line2 z (by omega) g)
    · exact .inr (on_line2 z' (by omega) (by omega))
  · by_cases g : v.1 ≤ b.1 ∧ b.1 ≤ a.1 ∨ a.1 ≤ b.1 ∧ b.1 ≤ v.1
    · exact .inl (on_line z (by omega) g)
    · exact .inr (on_line z' (by omega) (by omega))
theorem nx_pt {c d a b x : Pt} (h : NX c d a b) (h1 : On c d x) (h2 : On a b x) (k : ¬ (c = b ∧ d = a)) (k1 : c ≠ d) (k2 : a ≠ b) : (x = d ∧ x = a) ∨ (x = c ∧ x = b) := by
  by_cases c1 : d = a
  · subst c1
    by_cases c2 : x = d
    · exact .inl ⟨c2, c2⟩
    · exfalso
      rcases on_two (on_comm.1 h1) h2 c2 with g | g
      · have := h.2.1 (on_comm.1 g)
        exact k ⟨this.symm, rfl⟩
      · have := h.2.2.1 g
        exact k ⟨this, rfl⟩
  · by_cases c2 : c = b
    · subst c2
      by_cases c3 : x = c
      · exact .inr ⟨c3, c3⟩
      · exfalso
        rcases on_two h1 (on_comm.1 h2) c3 with g | g
        · exact c1 (h.1 g).symm
        · exact c1 (h.2.2.2.1 (on_comm.1 g))
    · exact absurd (meet_of h1 h2) (nx_meet h c2 c1)

/-! ### A triangle -/
def InT (a e b x : Pt) : Prop := 0 ≤ side a e x ∧ 0 ≤ side e b x ∧ 0 ≤ side b a x
theorem bary (a e b x m n : Pt) : side e b x * side m n a + side b a x * side m n e + side a e x * side m n b = side a e b * side m n x := by unfold side; grind
theorem bary_sum (a e b x : Pt) : side e b x + side b a x + side a e x = side a e b := by unfold side; grind
theorem vec_s (v a b c m n : Pt) : side v a b * side m n c + side v b c * side m n a + side v c a * side m n b = (side v a b + side v b c + side v c a) * side m n v := by unfold side; grind
theorem px_a {a e b y p o : Pt} (hD : 0 < side a e b) (y1 : 0 < side a e y) (y2 : 0 < side e b y) (y3 : 0 ≤ side b a y) (hB : 0 < side e y p) (hB' : side e y o ≤ 0) (ge : side p o e < 0) (gy : 0 ≤ side p o y)
    (d1 : side b a y ≤ side b a p) (d2 : 0 < side b a p) (hp : ¬ InT a e b p) : Crs p o a e := by
  have c1 : side e y a = side a e y := by rw [← side_cyc]
  have c2 : side e a p = - side a e p := by rw [side_swap]
  have c3 : side e p y = - side e y p := side_flip _ _ _
  have c4 : side e b a = side a e b := by rw [← side_cyc]
  have c5 : side b a e = side a e b := by rw [side_cyc, side_cyc]
  have c6 : side b a a = 0 := side_self3 _ _
  have c7 : side a e e = 0 := side_self3 _ _
  have c8 : side p o p = 0 := side_self2 _ _
  have c9 : side e b e = 0 := side_self2 _ _
  have i1 := vec_s e y a p e b
  have i2 := vec_s e y a p b a
  have i3 := vec_s e y a p p o
  have i4 := wt_id p o e y a e
  rw [c1, c2, c3] at i1 i2 i3
  rw [c4, c9] at i1
  rw [c5, c6] at i2
  rw [c8] at i3
  rw [c7] at i4
  have hA : side a e p < 0 := by
    rcases Int.lt_or_le (side a e p) 0 with g | g
    · exact g
    · exfalso
      have q1 := pp0 g (Int.le_of_lt y2)
      have q2 := pp hB hD
      have i1' : side a e y * side e b p = side a e p * side e b y + side e y p * side a e b := by grind
      have : 0 < side e b p := posR y1 (by omega)
      exact hp ⟨g, by omega, by omega⟩
  have i2' : (side a e y - side a e p - side e y p) * side a e b = side a e y * side b a p - side a e p * side b a y := by grind
  have q1 := pp y1 d2
  have q2 := np0 (Int.le_of_lt hA) y3
  have hS : 0 < side a e y - side a e p - side e y p := by
    have : 0 < side a e b * (side a e y - side a e p - side e y p) := by rw [Int.mul_comm]; omega
    exact posR hD this
  have i3' : side e y p * side p o a = - ((side a e y - side a e p - side e y p) * side p o e) - side a e p * side p o y := by grind
  have q3 := pn hS ge
  have q4 := np0 (Int.le_of_lt hA) gy
  have ga : 0 < side p o a := posR hB (by omega)
  have i4' : side e y p * side a e o = side e y o * side a e p - side p o e * side a e y := by grind
  have q5 := nn0 hB' (Int.le_of_lt hA)
  have q6 := np ge y1
  have so : 0 < side a e o := posR hB (by omega)
  exact ⟨.inl ⟨ga, ge⟩, .inr ⟨hA, so⟩⟩
def mir (x : Pt) : Pt := (- x.1, x.2)
theorem mir_side (a b c : Pt) : side (mir a) (mir b) (mir c) = - side a b c := by unfold side mir; grind
theorem px_b {a e b y p o : Pt} (hD : 0 < side a e b) (y1 : 0 < side a e y) (y2 : 0 < side e b y) (y3 : 0 ≤ side b a y) (hB : side e y p < 0) (hB' : 0 ≤ side e y o) (ge : 0 < side p o e) (gy : side p o y ≤ 0)
    (d1 : side b a y ≤ side b a p) (d2 : 0 < side b a p) (hp : ¬ InT a e b p) : Crs p o e b := by
  have s1 := mir_side
  have f1 : ∀ x, side (mir b) (mir e) (mir x) = side e b x := fun x => by rw [s1, side_swap e b]
  have f2 : ∀ x, side (mir e) (mir a) (mir x) = side a e x := fun x => by rw [s1, side_swap a e]
  have f3 : ∀ x, side (mir a) (mir b) (mir x) = side b a x := fun x => by rw [s1, side_swap b a]
  have k := px_a (a := mir b) (e := mir e) (b := mir a) (y := mir y) (p := mir p) (o := mir o) (by rw [f1, ← side_cyc]; exact hD) (by rw [f1]; exact y2) (by rw [f2]; exact y1) (by rw [f3]; exact y3) (by rw [s1]; omega) (by rw [s1]; omega) (by rw [s1]; omega) (by rw [s1]; omega) (by rw [f3, f3]; exact d1) (by rw [f3]; exact d2) (fun h => hp (by
    unfold InT at h
    rw [f1, f2, f3] at h
    exact ⟨h.2.1, h.1, h.2.2⟩))
  unfold Crs at k
  rw [s1, s1, f1, f1] at k
  unfold Crs
  omega
theorem px_p {a e b y c d : Pt} (hD : 0 < side a e b) (y1 : 0 < side a e y) (y2 : 0 < side e b y) (y3 : 0 ≤ side b a y) (h : Crs c d e y ∨ On c d y) (ho : ¬ On c d e) (d1 : side b a y ≤ side b a c) (d2 : 0 < side b a c) (hp : ¬ InT a e b c) : Crs c d a e ∨ Crs c d e b := by
  have w := wt_sum c d e y
  rcases h with h | h
  · obtain ⟨h1, h2⟩ := h
    rcases h2 with h2 | h2
    · exact .inl (px_a hD y1 y2 y3 h2.1 (by omega) (by omega) (by omega) d1 d2 hp)
    · exact .inr (px_b hD y1 y2 y3 h2.1 (by omega) (by omega) (by omega) d1 d2 hp)
  · have z : side c d y = 0 := h.1
    obtain ⟨s, t, p1, p2, p3, p4, p5⟩ := on_comb h
    have e1 : s * side e y c + t * side e y d = 0 := by
      have : s * side e y c + t * side e y d = (s + t) * side e y y := by unfold side; grind
      rw [side_self3, Int.mul_zero] at this; exact this
    have ht : 0 < t := by
      rcases Int.lt_or_le 0 t with g | g
      · exact g
      · have t0 : t = 0 := by omega
        subst t0
        have k1 : s * (y.1 - c.1) = 0 := by grind
        have k2 : s * (y.2 - c.2) = 0 := by grind
        have := Int.mul_eq_zero.1 k1
        have := Int.mul_eq_zero.1 k2
        have : y = c := Prod.ext (by omega) (by omega)
        subst this
        exact absurd ⟨Int.le_of_lt y1, Int.le_of_lt y2, y3⟩ hp
    rcases sgn_cases (side e y c) with g | g | g
    · have q := pn0 p1 (Int.le_of_lt g)
      have : 0 ≤ side e y d := by
        rcases Int.lt_or_le (side e y d) 0 with k | k
        · have := pn ht k; omega
        · exact k
      exact .inr (px_b hD y1 y2 y3 g this (by omega) (by omega) d1 d2 hp)
    · exfalso
      rw [g, Int.mul_zero, Int.zero_add] at e1
      have gd : side e y d = 0 := (Int.mul_eq_zero.1 e1).resolve_left (by omega)
      have ze : side c d e = 0 := by omega
      have i1 := vec_s e y a c e b
      rw [side_self2, show side e y a = side a e y by rw [← side_cyc], show side e a c = - side a e c by rw [side_swap], show side e c y = - side e y c from side_flip _ _ _, g] at i1
      have hA : side a e c < 0 := by
        rcases Int.lt_or_le (side a e c) 0 with k | k
        · exact k
        · exfalso
          have q1 := pp0 k (Int.le_of_lt y2)
          have i1' : side a e y * side e b c = side a e c * side e b y := by grind
          have : 0 ≤ side e b c := by
            rcases Int.lt_or_le (side e b c) 0 with r | r
            · have := pn y1 r; omega
            · exact r
          exact hp ⟨k, this, by omega⟩
      have hO : 0 < side a e d := by
        have : s * side a e c + t * side a e d = (s + t) * side a e y := by unfold side; grind
        have q1 := pp p3 y1
        have q2 := pn0 p1 (Int.le_of_lt hA)
        exact posR ht (by omega)
      exact ho (on_opp' (y := a) ze (by rw [side_swap]; omega) (by rw [side_swap]; omega))
    · have q := pp0 p1 (Int.le_of_lt g)
      have : side e y d ≤ 0 := by
        rcases Int.lt_or_le 0 (side e y d) with k | k
        · have := pp ht k; omega
        · exact k
      exact .inl (px_a hD y1 y2 y3 g this (by omega) (by omega) d1 d2 hp)
end Go.Hu
