import Derived.Test.YtgjaamjbagoieaaBHuOut
set_option linter.unusedVariables false
set_option linter.unusedSimpArgs false
set_option linter.unnecessarySimpa false
/-
  One point more.
-/
namespace Go.Hu
theorem cone1 (p t n x : Pt) : side p t n * (x.1 - t.1) = side p t x * (n.1 - t.1) + side t n x * (p.1 - t.1) := by unfold side; grind
theorem cone2 (p t n x : Pt) : side p t n * (x.2 - t.2) = side p t x * (n.2 - t.2) + side t n x * (p.2 - t.2) := by unfold side; grind
theorem cone_side (p t n x a b : Pt) : side p t n * (side a b x - side a b t) = side p t x * (side a b n - side a b t) + side t n x * (side a b p - side a b t) := by unfold side; grind
/-- What no corner lies beyond, no point inside lies beyond. -/
theorem Ring.beyond {S h : List Pt} (R : Ring S h) {x : Pt} (hx : ∀ i, i < h.length → 0 ≤ side (at_ h i) (at_ h (nx h i)) x) (f : Pt → Int) (hc : ∀ p t n x : Pt, side p t n * (f x - f t) = side p t x * (f n - f t) + side t n x * (f p - f t)) :
    ∃ t, t < h.length ∧ f (at_ h t) ≤ f x ∧ ∀ i, i < h.length → f (at_ h t) ≤ f (at_ h i) := by
  obtain ⟨t, t1, t2⟩ := top_exists (fun i => -(f (at_ h i))) h.length R.pos
  have hmin : ∀ i, i < h.length → f (at_ h t) ≤ f (at_ h i) := fun i hi => by have := t2 i hi; omega
  refine ⟨t, t1, ?_, hmin⟩
  have hp := pv_lt' R.pos t
  have s1 := hx (pv h t) hp
  rw [nx_pv t1] at s1
  have e := hc (at_ h (pv h t)) (at_ h t) (at_ h (nx h t)) x
  have m1 := hmin _ hp
  have m2 := hmin _ (nx_lt R.pos t)
  have p1 := Int.mul_nonneg s1 (show 0 ≤ f (at_ h (nx h t)) - f (at_ h t) by omega)
  have p2 := Int.mul_nonneg (hx t t1) (show 0 ≤ f (at_ h (pv h t)) - f (at_ h t) by omega)
  rcases Int.lt_or_le (f x) (f (at_ h t)) with k | k
  · have := Int.mul_neg_of_pos_of_neg (R.turn t1) (show f x - f (at_ h t) < 0 by omega)
    omega
  · exact k
theorem IsHull.least_in {S h : List Pt} (H : IsHull S h) {x : Pt} (hx : ∀ i, i < h.length → 0 ≤ side (at_ h i) (at_ h (nx h i)) x) : x = at_ h 0 ∨ before true (at_ h 0) x := by
  have R := H.toRing
  have hp := pv_lt' R.pos 0
  have e1 := cone1 (at_ h (pv h 0)) (at_ h 0) (at_ h (nx h 0)) x
  have e2 := cone2 (at_ h (pv h 0)) (at_ h 0) (at_ h (nx h 0)) x
  have s1 := hx (pv h 0) hp
  rw [nx_pv R.pos] at s1
  have s2 := hx 0 R.pos
  have tr := R.turn R.pos
  have hn := H.first _ (R.mem (nx_lt R.pos 0))
  have hq := H.first _ (R.mem hp)
  have ne1 : at_ h (nx h 0) ≠ at_ h 0 := fun e => R.ne_next R.pos e.symm
  have ne2 : at_ h (pv h 0) ≠ at_ h 0 := fun e => by
    have := R.ne_next hp
    rw [nx_pv R.pos] at this
    exact this e
  have b1 : before true (at_ h 0) (at_ h (nx h 0)) := hn.resolve_left ne1
  have b2 : before true (at_ h 0) (at_ h (pv h 0)) := hq.resolve_left ne2
  generalize side (at_ h (pv h 0)) (at_ h 0) x = A at e1 e2 s1
  generalize side (at_ h 0) (at_ h (nx h 0)) x = B at e1 e2 s2
  generalize side (at_ h (pv h 0)) (at_ h 0) (at_ h (nx h 0)) = D at e1 e2 tr
  generalize at_ h (pv h 0) = p at *
  generalize at_ h (nx h 0) = n at *
  generalize at_ h 0 = t at *
  simp only [before] at b1 b2 ⊢
  have c1 := Int.mul_nonneg s1 (show 0 ≤ n.1 - t.1 by omega)
  have c2 := Int.mul_nonneg s2 (show 0 ≤ p.1 - t.1 by omega)
  rcases Int.lt_or_le x.1 t.1 with k | k
  · have := Int.mul_neg_of_pos_of_neg tr (show x.1 - t.1 < 0 by omega)
    omega
  · rcases Int.lt_or_le t.1 x.1 with k2 | k2
    · exact .inr (.inl k2)
    · have kx : x.1 - t.1 = 0 := by omega
      rw [kx, Int.mul_zero] at e1
      have z1 : A * (n.1 - t.1) = 0 := by omega
      have z2 : B * (p.1 - t.1) = 0 := by omega
      have y1 : 0 ≤ A * (n.2 - t.2) := by
        rcases Int.mul_eq_zero.1 z1 with z | z
        · rw [z, Int.zero_mul]; exact Int.le_refl _
        · exact Int.mul_nonneg s1 (by omega)
      have y2 : 0 ≤ B * (p.2 - t.2) := by
        rcases Int.mul_eq_zero.1 z2 with z | z
        · rw [z, Int.zero_mul]; exact Int.le_refl _
        · exact Int.mul_nonneg s2 (by omega)
      rcases Int.lt_or_le x.2 t.2 with m | m
      · have := Int.mul_neg_of_pos_of_neg tr (show x.2 - t.2 < 0 by omega)
        omega
      · by_cases q : x.2 = t.2
        · exact .inl (Prod.ext (by omega) q)
        · exact .inr (.inr ⟨by omega, by omega⟩)
theorem side_a (a b : Pt) : side a b a = 0 := by unfold side; grind
theorem side_b (a b : Pt) : side a b b = 0 := by unfold side; grind

/-- One point more: inside, nothing changes. -/
theorem IsHull.add_in {S h : List Pt} (H : IsHull S h) {x : Pt} (hx : ∀ i, i < h.length → 0 ≤ side (at_ h i) (at_ h (nx h i)) x) : IsHull (S ++ [x]) h := by
  refine ⟨⟨H.len, fun y hy => List.mem_append_left _ (H.sub y hy), fun i hi q hq => ?_, H.strict⟩, fun q hq => ?_⟩
  · rcases List.mem_append.1 hq with k | k
    · exact H.left i hi q k
    · rw [List.mem_singleton.1 k]; exact hx i hi
  · rcases List.mem_append.1 hq with k | k
    · exact H.first q k
    · rw [List.mem_singleton.1 k]; exact H.least_in hx
/-- One point more: outside, it is a corner, and every other corner was one. -/
theorem IsHull.add_out {S h g : List Pt} (H : IsHull S h) {x : Pt} (G : IsHull (S ++ [x]) g) {m : Nat} (hm : m < h.length) (hx : side (at_ h m) (at_ h (nx h m)) x < 0) : x ∈ g ∧ ∀ q ∈ g, q ≠ x → q ∈ h := by
  have R := H.toRing
  have Q := G.toRing
  constructor
  · apply Classical.byContradiction
    intro hn
    obtain ⟨t, t1, t2, _⟩ := Q.beyond (x := x) (fun i hi => Q.left i hi x (by simp)) (fun y => side (at_ h m) (at_ h (nx h m)) y) (fun p t n x => cone_side p t n x _ _)
    have hg := Q.mem t1
    rcases List.mem_append.1 hg with k | k
    · have k2 := R.left m hm _ k
      have t3 : side (at_ h m) (at_ h (nx h m)) (at_ g t) ≤ side (at_ h m) (at_ h (nx h m)) x := t2
      omega
    · rw [← List.mem_singleton.1 k] at hn
      exact hn (at_mem t1)
  · intro q hq hne
    apply Classical.byContradiction
    intro hn
    obtain ⟨i, i1, rfl⟩ := mem_at hq
    have hqS : at_ g i ∈ S := by
      rcases List.mem_append.1 (Q.mem i1) with k | k
      · exact k
      · exact absurd (List.mem_singleton.1 k) hne
    have hp := pv_lt' Q.pos i
    let f : Pt → Int := fun y => side (at_ g (pv g i)) (at_ g i) y + side (at_ g i) (at_ g (nx g i)) y
    have f0 : f (at_ g i) = 0 := by
      show side _ _ _ + side _ _ _ = 0
      rw [side_b, side_a]; rfl
    have hcone : ∀ p t n x : Pt, side p t n * (f x - f t) = side p t x * (f n - f t) + side t n x * (f p - f t) := fun p t n x => by
      have e1 := cone_side p t n x (at_ g (pv g i)) (at_ g i)
      have e2 := cone_side p t n x (at_ g i) (at_ g (nx g i))
      show side p t n * (side _ _ x + side _ _ x - (side _ _ t + side _ _ t)) = side p t x * (side _ _ n + side _ _ n - (side _ _ t + side _ _ t)) + side t n x * (side _ _ p + side _ _ p - (side _ _ t + side _ _ t))
      grind
    obtain ⟨t, t1, t2, _⟩ := R.beyond (x := at_ g i) (fun j hj => R.left j hj _ hqS) f hcone
    rw [f0] at t2
    have hhS : at_ h t ∈ S ++ [x] := List.mem_append_left _ (R.mem t1)
    have l1 := Q.left (pv g i) hp _ hhS
    rw [nx_pv i1] at l1
    have l2 := Q.left i i1 _ hhS
    have t2' : side (at_ g (pv g i)) (at_ g i) (at_ h t) + side (at_ g i) (at_ g (nx g i)) (at_ h t) ≤ 0 := t2
    have z1 : side (at_ g (pv g i)) (at_ g i) (at_ h t) = 0 := by omega
    have z2 : side (at_ g i) (at_ g (nx g i)) (at_ h t) = 0 := by omega
    have c1 := cone1 (at_ g (pv g i)) (at_ g i) (at_ g (nx g i)) (at_ h t)
    have c2 := cone2 (at_ g (pv g i)) (at_ g i) (at_ g (nx g i)) (at_ h t)
    rw [z1, z2] at c1 c2
    have tr := Q.turn i1
    have y1 : (at_ h t).1 - (at_ g i).1 = 0 := by
      rcases Int.mul_eq_zero.1 (show _ * ((at_ h t).1 - (at_ g i).1) = 0 by rw [c1]; simp) with z | z
      · omega
      · exact z
    have y2 : (at_ h t).2 - (at_ g i).2 = 0 := by
      rcases Int.mul_eq_zero.1 (show _ * ((at_ h t).2 - (at_ g i).2) = 0 by rw [c2]; simp) with z | z
      · omega
      · exact z
    have : at_ h t = at_ g i := Prod.ext (by omega) (by omega)
    exact hn (this ▸ at_mem t1)
end Go.Hu
