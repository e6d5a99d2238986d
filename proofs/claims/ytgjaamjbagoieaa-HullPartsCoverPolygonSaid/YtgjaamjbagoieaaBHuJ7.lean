import Derived.Test.YtgjaamjbagoieaaBHuJ6
set_option linter.unusedVariables false
set_option linter.unusedSimpArgs false
set_option linter.unnecessarySimpa false
/-
  Simple polygons: corners, their sight, extreme corners.
-/
namespace Go.Hu

theorem px {a e b y c d : Pt} (hD : 0 < side a e b) (y1 : 0 < side a e y) (y2 : 0 < side e b y) (y3 : 0 ≤ side b a y) (h : Crs c d e y ∨ On c d y ∧ 0 < side b a y) (ho : ¬ On c d e)
    (hc : 0 < side b a c → side b a y ≤ side b a c → (Crs c d e y → side b a y < side b a c) → ¬ InT a e b c) (hd : 0 < side b a d → side b a y ≤ side b a d → (Crs c d e y → side b a y < side b a d) → ¬ InT a e b d) : Crs c d a e ∨ Crs c d e b := by
  have bs := bary_sum a e b y
  have c5 : side b a e = side a e b := by rw [side_cyc, side_cyc]
  have ho' : ¬ On d c e := fun k => ho (on_comm.1 k)
  have hsw : Crs d c a e ∨ Crs d c e b → Crs c d a e ∨ Crs c d e b := fun k => k.elim (fun k => .inl (crs_swap.1 k)) (fun k => .inr (crs_swap.1 k))
  have hit : Crs c d e y ∨ On c d y := h.elim .inl fun k => .inr k.1
  have hit' : Crs d c e y ∨ On d c y := hit.elim (fun k => .inl (crs_swap.1 k)) fun k => .inr (on_comm.1 k)
  have main : (side b a y ≤ side b a c ∧ 0 < side b a c ∧ (Crs c d e y → side b a y < side b a c)) ∨ (side b a y ≤ side b a d ∧ 0 < side b a d ∧ (Crs c d e y → side b a y < side b a d)) := by
    rcases h with h | ⟨h, k⟩
    · suffices hs : side b a y < side b a c ∨ side b a y < side b a d by
        rcases hs with hs | hs
        · exact .inl ⟨by omega, by omega, fun _ => hs⟩
        · exact .inr ⟨by omega, by omega, fun _ => hs⟩
      have w := wt_id c d e y b a
      have w0 := wt_sum c d e y
      obtain ⟨h1, h2⟩ := h
      apply Classical.byContradiction
      intro hn
      have g1 : side b a c ≤ side b a y := by omega
      have g2 : side b a d ≤ side b a y := by omega
      rw [c5] at w
      rcases h2 with h2 | h2
      · have q1 := pn0 (show 0 ≤ side e y c by omega) (show side b a d - side b a y ≤ 0 by omega)
        have q2 := nn0 (show side e y d ≤ 0 by omega) (show side b a c - side b a y ≤ 0 by omega)
        have q3 := pp (show 0 < side c d y by omega) (show 0 < side a e b - side b a y by omega)
        have : side e y d * (side b a c - side b a y) - side e y c * (side b a d - side b a y) = - (side c d y * (side a e b - side b a y)) := by grind
        have h3 := nn0 (show side e y d ≤ 0 by omega) (show side b a c - side b a y ≤ 0 by omega)
        omega
      · have q1 := nn0 (show side e y c ≤ 0 by omega) (show side b a d - side b a y ≤ 0 by omega)
        have q2 := pn0 (show 0 ≤ side e y d by omega) (show side b a c - side b a y ≤ 0 by omega)
        have q3 := np (show side c d y < 0 by omega) (show 0 < side a e b - side b a y by omega)
        have : side e y d * (side b a c - side b a y) - side e y c * (side b a d - side b a y) = - (side c d y * (side a e b - side b a y)) := by grind
        omega
    · obtain ⟨s, t, p1, p2, p3, p4, p5⟩ := on_comb h
      have hno : ¬ Crs c d e y := fun kk => by have := h.1; have := kk.1; omega
      suffices hs : side b a y ≤ side b a c ∨ side b a y ≤ side b a d by
        rcases hs with hs | hs
        · exact .inl ⟨by omega, by omega, fun k => absurd k hno⟩
        · exact .inr ⟨by omega, by omega, fun k => absurd k hno⟩
      have e1 : s * (side b a c - side b a y) + t * (side b a d - side b a y) = 0 := by unfold side; grind
      apply Classical.byContradiction
      intro hn
      have g1 : side b a c - side b a y < 0 := by omega
      have g2 : side b a d - side b a y < 0 := by omega
      rcases Int.lt_or_le 0 s with g | g
      · have := pn g g1
        have := pn0 p2 (Int.le_of_lt g2)
        omega
      · have := pn (show 0 < t by omega) g2
        have := pn0 p1 (Int.le_of_lt g1)
        omega
  rcases main with ⟨m1, m2, m3⟩ | ⟨m1, m2, m3⟩
  · exact px_p hD y1 y2 y3 hit ho m1 m2 (hc m2 m1 m3)
  · exact hsw (px_p hD y1 y2 y3 hit' ho' m1 m2 (hd m2 m1 m3))
theorem px2_p {a e b p o : Pt} (hD : 0 < side a e b) (h1 : 0 < side b a p) (h2 : side b a o < 0) (ho : ¬ On p o e) (hp : ¬ InT a e b p) (hab : 0 < side p o a ∧ side p o b < 0 ∨ side p o a < 0 ∧ 0 < side p o b) : Crs p o a e ∨ Crs p o e b := by
  have w0 := wt_sum p o a b
  have w1 := wt_id p o a b e b
  have w2 := wt_id p o a b a e
  have b1 := bary a e b p p o
  rw [side_self2, Int.mul_zero] at b1
  rw [side_self3, Int.mul_zero, show side e b a = side a e b by rw [← side_cyc]] at w1
  rw [side_self2, Int.mul_zero] at w2
  have f1 : side a b o = - side b a o := side_swap _ _ _
  have f2 : side a b p = - side b a p := side_swap _ _ _
  rw [f1, f2] at w0 w1 w2
  have ga : 0 < side p o a ∧ side p o b < 0 := by omega
  have hin : ¬ (0 ≤ side e b p ∧ 0 ≤ side a e p) := fun k => hp ⟨k.2, k.1, by omega⟩
  have q1 := np ga.2 hD
  have q2 := pp ga.1 hD
  have w1' : (- side b a o) * side e b p + side b a p * side e b o = - (side p o b * side a e b) := by grind
  have w2' : (- side b a o) * side a e p + side b a p * side a e o = side p o a * side a e b := by grind
  have sO1 : side e b p < 0 → 0 < side e b o := fun k => by
    have := pn (show 0 < - side b a o by omega) k
    exact posR h1 (by omega)
  have sO2 : side a e p < 0 → 0 < side a e o := fun k => by
    have := pn (show 0 < - side b a o by omega) k
    exact posR h1 (by omega)
  have r1 : 0 ≤ side p o e → side e b p < 0 := fun k => by
    rcases Int.lt_or_le (side e b p) 0 with g | g
    · exact g
    · exfalso
      have r1 := pp0 g (Int.le_of_lt ga.1)
      have r2 := pp0 (Int.le_of_lt h1) k
      refine hin ⟨g, ?_⟩
      rcases Int.lt_or_le (side a e p) 0 with m | m
      · have := nn m ga.2; omega
      · exact m
  have r2 : side p o e ≤ 0 → side a e p < 0 := fun k => by
    rcases Int.lt_or_le (side a e p) 0 with g | g
    · exact g
    · exfalso
      have r1 := pn0 g (Int.le_of_lt ga.2)
      have r2 := pn0 (Int.le_of_lt h1) k
      refine hin ⟨?_, g⟩
      rcases Int.lt_or_le (side e b p) 0 with m | m
      · have := np m ga.1; omega
      · exact m
  rcases sgn_cases (side p o e) with g | g | g
  · exact .inl ⟨.inl ⟨ga.1, g⟩, .inr ⟨r2 (by omega), sO2 (r2 (by omega))⟩⟩
  · exact absurd (on_opp g (r1 (by omega)) (sO1 (r1 (by omega)))) ho
  · exact .inr ⟨.inl ⟨g, ga.2⟩, .inr ⟨r1 (by omega), sO1 (r1 (by omega))⟩⟩
theorem px2 {a e b c d : Pt} (hD : 0 < side a e b) (h : Crs c d a b) (ho : ¬ On c d e) (hc : 0 < side b a c → ¬ InT a e b c) (hd : 0 < side b a d → ¬ InT a e b d) : Crs c d a e ∨ Crs c d e b := by
  obtain ⟨h1, h2⟩ := h
  rw [side_swap a b c, side_swap a b d] at h2
  rcases h2 with h2 | h2
  · have := px2_p hD (p := d) (o := c) (by omega) (by omega) (fun k => ho (on_comm.1 k)) (hd (by omega)) (by rw [side_swap d c a, side_swap d c b]; omega)
    exact this.elim (fun k => .inl (crs_swap.1 k)) (fun k => .inr (crs_swap.1 k))
  · exact px2_p hD (by omega) (by omega) ho (hc (by omega)) h1
/-- An edge that ends in a does not come out of the triangle there. -/
theorem no_wedge {a e b p : Pt} (hD : 0 < side a e b) (h1 : 0 ≤ side a e p) (h2 : 0 ≤ side a p b) (hp : ¬ InT a e b p) (n1 : ¬ Crs p a e b) (n2 : ¬ On p a e) (n3 : ¬ On p a b) : False := by
  have f1 : side b a p = side a p b := side_cyc _ _ _
  have f2 : side p a e = side a e p := side_cyc _ _ _
  have f3 : side p a b = - side a p b := side_swap _ _ _
  have f4 : side e b a = side a e b := by rw [← side_cyc]
  have l : side e b p < 0 := by
    rcases Int.lt_or_le (side e b p) 0 with g | g
    · exact g
    · exact absurd ⟨h1, g, by omega⟩ hp
  by_cases g1 : side a e p = 0
  · exact n2 (on_opp (y := b) (by omega) l (by omega))
  · by_cases g2 : side a p b = 0
    · exact n3 (on_opp' (y := e) (by omega) (by rw [side_swap]; omega) (by rw [side_swap]; omega))
    · exact n1 ⟨.inl ⟨by omega, by omega⟩, .inr ⟨l, by omega⟩⟩

/-! ### Simple polygons -/
structure Simple (P : List Pt) : Prop where
  nd : P.Nodup
  len : 3 ≤ P.length
  nx : ∀ c d a b, (c, d) ∈ ed P → (a, b) ∈ ed P → (c, d) ≠ (a, b) → NX c d a b
theorem Simple.rot {A B : List Pt} (S : Simple (A ++ B)) : Simple (B ++ A) :=
  ⟨(List.perm_append_comm.nodup_iff).1 S.nd, by have := S.len; simp only [List.length_append] at *; omega, fun c d a b h1 h2 h3 => S.nx c d a b ((ed_rot_mem A B _).2 h1) ((ed_rot_mem A B _).2 h2) h3⟩
/-- The parts of a polygon that begins with v. -/
theorem mem_ed {v w : Pt} {L : List Pt} {e : Pt × Pt} : e ∈ ed (v :: w :: L) ↔ e = (v, w) ∨ e ∈ pe (w :: L) ∨ e = (lst w L, v) := by rw [ed_cons]; simp
theorem Simple.notin {v w : Pt} {L : List Pt} (S : Simple (v :: w :: L)) : v ∉ w :: L := (List.nodup_cons.1 S.nd).1
theorem Simple.nd' {v w : Pt} {L : List Pt} (S : Simple (v :: w :: L)) : w ∉ L := (List.nodup_cons.1 (List.nodup_cons.1 S.nd).2).1
theorem Simple.corner {v w t : Pt} {L : List Pt} (S : Simple (v :: w :: t :: L)) : ¬ On v (lst t L) w ∧ ¬ On v w (lst t L) := by
  have h1 : ((lst t L, v) : Pt × Pt) ∈ ed (v :: w :: t :: L) := mem_ed.2 (.inr (.inr rfl))
  have h2 : ((v, w) : Pt × Pt) ∈ ed (v :: w :: t :: L) := mem_ed.2 (.inl rfl)
  have hu := lst_mem L t
  have n1 : lst t L ≠ w := fun e => S.nd' (e ▸ hu)
  have n2 : lst t L ≠ v := fun e => S.notin (List.mem_cons_of_mem _ (e ▸ hu))
  have k := S.nx _ _ _ _ h1 h2 (fun e => n2 (Prod.mk.inj e).1)
  exact ⟨fun h => n1 (k.2.1 (on_comm.1 h)).symm, fun h => n1 (k.2.2.1 h)⟩
theorem Simple.step {v w t : Pt} {L : List Pt} (S : Simple (v :: w :: t :: L)) : lam w t (L ++ [v]) = lam v w (t :: L) := by
  have c1 := S.corner
  have S' : Simple (w :: t :: (L ++ [v])) := Simple.rot (A := [v]) (B := w :: t :: L) S
  have hn : v ≠ w := fun e => S.notin (by simp [e])
  have h2 : ((v, w) : Pt × Pt) ∈ ed (v :: w :: t :: L) := mem_ed.2 (.inl rfl)
  have c2 : ¬ On w v t ∧ ¬ On w t v := by
    cases L with
    | nil => exact Simple.corner (v := w) (w := t) (t := v) (L := []) S'
    | cons x L =>
      have := Simple.corner (v := w) (w := t) (t := x) (L := L ++ [v]) S'
      rw [show lst x (L ++ [v]) = v from lst_app v L x] at this
      exact this
  refine lam_step (fun e he => ?_) c1.1 c1.2 c2.2 c2.1 hn
  obtain ⟨m1, m2⟩ := pe_mem (a := e.1) (b := e.2) he
  have n1 : e.1 ≠ w := fun h => S.nd' (h ▸ m1)
  have n2 : e.2 ≠ v := fun h => S.notin (List.mem_cons_of_mem _ (h ▸ m2))
  have n3 : e.1 ≠ v := fun h => S.notin (List.mem_cons_of_mem _ (h ▸ m1))
  refine nx_meet (S.nx _ _ _ _ (mem_ed.2 (.inr (.inl ?_))) h2 (fun h => n3 (Prod.mk.inj h).1)) n1 n2
  simp only [pe, List.mem_cons]
  exact .inr he
def lamP : List Pt → Int
  | v :: w :: L => lam v w L
  | _ => 0
theorem Simple.lam_rot {B : List Pt} : ∀ {A : List Pt}, Simple (A ++ B) → lamP (A ++ B) = lamP (B ++ A) := by
  intro A
  induction A generalizing B with
  | nil => intro _; simp
  | cons a A ih =>
    intro S
    have S' : Simple ((A ++ B) ++ [a]) := Simple.rot (A := [a]) S
    have e1 : lamP (a :: (A ++ B)) = lamP ((A ++ B) ++ [a]) := by
      have hl := S.len
      simp only [List.cons_append] at S hl
      revert S hl
      generalize A ++ B = C
      intro S hl
      match C, S, hl with
      | [], _, hl => simp at hl
      | [_], _, hl => simp at hl
      | w :: t :: L, S, _ => exact S.step.symm
    have e2 := ih (B := B ++ [a]) (by simpa using S')
    simp only [List.cons_append]
    rw [e1, List.append_assoc, e2]
    simp
structure Pos (P : List Pt) : Prop extends Simple P where
  lam : lamP P = 0
theorem Pos.rot {A B : List Pt} (S : Pos (A ++ B)) : Pos (B ++ A) := ⟨S.toSimple.rot, by rw [← S.toSimple.lam_rot]; exact S.lam⟩

/-! ### Extreme corners -/
theorem dir_id (v u w : Pt) (dx dy : Int) : side v w u * (dx * dx + dy * dy) = (dx * (w.1 - v.1) + dy * (w.2 - v.2)) * (dx * (u.2 - v.2) - dy * (u.1 - v.1)) + ((w.1 - v.1) * dy - (w.2 - v.2) * dx) * (dx * (u.1 - v.1) + dy * (u.2 - v.2)) := by unfold side; grind
theorem sq_pos {dx dy : Int} (h : ¬ (dx = 0 ∧ dy = 0)) : 0 < dx * dx + dy * dy := by
  rcases sg2 dx dx with g | g | g | g | g | g | g | g | g <;> rcases sg2 dy dy with k | k | k | k | k | k | k | k | k <;> omega
theorem ext_sec {v u w : Pt} (dx dy : Int) (hu : 0 < dx * (u.1 - v.1) + dy * (u.2 - v.2)) (hw : 0 < dx * (w.1 - v.1) + dy * (w.2 - v.2)) :
    (side v w u < 0 → sec v u w (v.1 - dx, v.2 - dy) = 1) ∧ (0 < side v w u → sec v u w (v.1 - dx, v.2 - dy) = 0) := by
  have id := dir_id v u w dx dy
  have hd : 0 < dx * dx + dy * dy := sq_pos fun k => by rw [k.1, k.2] at hu; simp at hu
  have s1 : side v w (v.1 - dx, v.2 - dy) = - ((w.1 - v.1) * dy - (w.2 - v.2) * dx) := by unfold side; grind
  have s2 : side v (v.1 - dx, v.2 - dy) u = - (dx * (u.2 - v.2) - dy * (u.1 - v.1)) := by unfold side; grind
  have s3 : side v (v.1 - dx, v.2 - dy) w = (w.1 - v.1) * dy - (w.2 - v.2) * dx := by unfold side; grind
  have s4 : side v u (v.1 - dx, v.2 - dy) = dx * (u.2 - v.2) - dy * (u.1 - v.1) := by unfold side; grind
  have f := side_flip v u w
  constructor
  · intro h
    by_cases g1 : 0 < side v w (v.1 - dx, v.2 - dy)
    · exact ls1 g1 (.inl h)
    · by_cases g2 : 0 < side v (v.1 - dx, v.2 - dy) u
      · exact ls2 g2 (.inl h)
      · exfalso
        have q1 := pp0 (Int.le_of_lt hw) (show 0 ≤ dx * (u.2 - v.2) - dy * (u.1 - v.1) by omega)
        have q2 := pp0 (show 0 ≤ (w.1 - v.1) * dy - (w.2 - v.2) * dx by omega) (Int.le_of_lt hu)
        have q3 := np h hd
        omega
  · intro h
    have o1 : ¬ On v u w := fun k => by have := k.1; omega
    have o2 : ¬ On v w u := fun k => by have := k.1; omega
    by_cases g1 : 0 < side v (v.1 - dx, v.2 - dy) w
    · exact rs1 o1 o2 g1 (.inl (by omega))
    · by_cases g2 : 0 < side v u (v.1 - dx, v.2 - dy)
      · exact rs2 o1 o2 g2 (.inl (by omega))
      · exfalso
        have q1 := pn0 (Int.le_of_lt hw) (show dx * (u.2 - v.2) - dy * (u.1 - v.1) ≤ 0 by omega)
        have q2 := np0 (show (w.1 - v.1) * dy - (w.2 - v.2) * dx ≤ 0 by omega) (Int.le_of_lt hu)
        have q3 := pp h hd
        omega
theorem dir_same {v u w : Pt} (dx dy : Int) (hu : 0 < dx * (u.1 - v.1) + dy * (u.2 - v.2)) (hw : 0 < dx * (w.1 - v.1) + dy * (w.2 - v.2)) (h : side v u w = 0) : On v u w ∨ On v w u := by
  have key : ∀ {v u w : Pt}, 0 < dx * (u.1 - v.1) + dy * (u.2 - v.2) → 0 < dx * (w.1 - v.1) + dy * (w.2 - v.2) → side v u w = 0 → dx * (w.1 - v.1) + dy * (w.2 - v.2) ≤ dx * (u.1 - v.1) + dy * (u.2 - v.2) → On v u w := by
    intro v u w hu hw h hle
    have e1 : (dx * (u.1 - v.1) + dy * (u.2 - v.2)) * (w.1 - v.1) = (dx * (w.1 - v.1) + dy * (w.2 - v.2)) * (u.1 - v.1) := by unfold side at h; grind
    have e2 : (dx * (u.1 - v.1) + dy * (u.2 - v.2)) * (w.2 - v.2) = (dx * (w.1 - v.1) + dy * (w.2 - v.2)) * (u.2 - v.2) := by unfold side at h; grind
    have b1 := in_box hu (Int.le_of_lt hw) hle e1
    have b2 := in_box hu (Int.le_of_lt hw) hle e2
    exact on_edge.2 (by
      unfold edgeB
      simp only [Bool.and_eq_true, decide_eq_true_eq]
      exact ⟨h, b1.1, b1.2, b2.1, b2.2⟩)
  by_cases c : dx * (w.1 - v.1) + dy * (w.2 - v.2) ≤ dx * (u.1 - v.1) + dy * (u.2 - v.2)
  · exact .inl (key hu hw h c)
  · exact .inr (key hw hu (by rw [side_flip]; omega) (by omega))
def Ext (P : List Pt) (v : Pt) (dx dy : Int) : Prop := ∀ p ∈ P, p ≠ v → 0 < dx * (p.1 - v.1) + dy * (p.2 - v.2)
theorem ext_wind {v w t : Pt} {L : List Pt} (S : Simple (v :: w :: t :: L)) {dx dy : Int} (E : Ext (v :: w :: t :: L) v dx dy) : lam v w (t :: L) + sec v (lst t L) w (v.1 - dx, v.2 - dy) = 0 := by
  have hu := lst_mem L t
  have n2 : lst t L ≠ v := fun e => S.notin (List.mem_cons_of_mem _ (e ▸ hu))
  have nw : w ≠ v := fun e => S.notin (by simp [e])
  have pu := E (lst t L) (by simp only [List.mem_cons] at hu ⊢; exact .inr (.inr hu)) n2
  have pw := E w (by simp) nw
  have hd : 0 < dx * dx + dy * dy := sq_pos fun k => by rw [k.1, k.2] at pw; simp at pw
  have out : ∀ u : Pt, 0 < dx * (u.1 - v.1) + dy * (u.2 - v.2) → ¬ On v u (v.1 - dx, v.2 - dy) ∧ ¬ On v (v.1 - dx, v.2 - dy) u := fun u hu => by
    constructor
    · intro h
      obtain ⟨s, t, p1, p2, p3, p4, p5⟩ := on_comb h
      have e : (s + t) * (dx * dx + dy * dy) = - (t * (dx * (u.1 - v.1) + dy * (u.2 - v.2))) := by simp only at p4 p5; grind
      have := pp p3 hd
      have := pp0 p2 (Int.le_of_lt hu)
      omega
    · intro h
      obtain ⟨s, t, p1, p2, p3, p4, p5⟩ := on_comb h
      have e : (s + t) * (dx * (u.1 - v.1) + dy * (u.2 - v.2)) = - (t * (dx * dx + dy * dy)) := by simp only at p4 p5; grind
      have := pp p3 hu
      have := pp0 p2 (Int.le_of_lt hd)
      omega
  have sct := sector (v := v) (w := w) (L := t :: L) (y := (v.1 - dx, v.2 - dy)) (fun e he => by
    obtain ⟨m1, m2⟩ := pe_mem (a := e.1) (b := e.2) he
    have n3 : e.1 ≠ v := fun h => S.notin (h ▸ m1)
    have n4 : e.2 ≠ v := fun h => S.notin (h ▸ m2)
    have q1 := E e.1 (List.mem_cons_of_mem _ m1) n3
    have q2 := E e.2 (List.mem_cons_of_mem _ m2) n4
    refine sep_nomeet dx dy (dx * v.1 + dy * v.2) (by grind) (by grind) (Int.le_refl _) ?_
    have : dx * (v.1 - dx) + dy * (v.2 - dy) = dx * v.1 + dy * v.2 - (dx * dx + dy * dy) := by grind
    simp only
    omega) (out _ pu).1 (out _ pu).2 (out _ pw).1 (out _ pw).2
  have far := wind_far (P := v :: w :: t :: L) (y := (v.1 - dx, v.2 - dy)) dx dy (fun p hp => by
    by_cases c : p = v
    · subst c
      have : dx * (p.1 - (p.1 - dx)) + dy * (p.2 - (p.2 - dy)) = dx * dx + dy * dy := by grind
      simp only
      omega
    · have := E p hp c
      have : dx * (p.1 - (v.1 - dx)) + dy * (p.2 - (v.2 - dy)) = dx * (p.1 - v.1) + dy * (p.2 - v.2) + (dx * dx + dy * dy) := by grind
      simp only
      omega)
  rw [far] at sct
  exact sct.symm
theorem ext_turn {v w t : Pt} {L : List Pt} (S : Simple (v :: w :: t :: L)) {dx dy : Int} (E : Ext (v :: w :: t :: L) v dx dy) :
    side (lst t L) v w ≠ 0 ∧ (lam v w (t :: L) = 0 ↔ 0 < side (lst t L) v w) := by
  have hu := lst_mem L t
  have n2 : lst t L ≠ v := fun e => S.notin (List.mem_cons_of_mem _ (e ▸ hu))
  have nw : w ≠ v := fun e => S.notin (by simp [e])
  have pu := E (lst t L) (by simp only [List.mem_cons] at hu ⊢; exact .inr (.inr hu)) n2
  have pw := E w (by simp) nw
  have h := ext_wind S E
  obtain ⟨k1, k2⟩ := ext_sec dx dy pu pw
  have f : side (lst t L) v w = side v w (lst t L) := side_cyc _ _ _
  have f2 : side v (lst t L) w = - side v w (lst t L) := side_flip _ _ _
  have nz : side v w (lst t L) ≠ 0 := fun e => (dir_same dx dy pu pw (by omega)).elim S.corner.1 S.corner.2
  rw [f]
  refine ⟨nz, fun g => ?_, fun g => ?_⟩
  · rcases Int.lt_or_le (side v w (lst t L)) 0 with m | m
    · have := k1 m; omega
    · omega
  · have := k2 g; omega
theorem max_exists {α : Type} (f : α → Int) : ∀ l : List α, l ≠ [] → ∃ v ∈ l, ∀ p ∈ l, f p ≤ f v := by
  intro l
  induction l with
  | nil => intro h; exact absurd rfl h
  | cons x l ih =>
    intro _
    by_cases hl : l = []
    · subst hl; exact ⟨x, by simp, fun p hp => by simp at hp; rw [hp]; exact Int.le_refl _⟩
    · obtain ⟨v, h1, h2⟩ := ih hl
      by_cases c : f v ≤ f x
      · refine ⟨x, by simp, fun p hp => ?_⟩
        rcases List.mem_cons.1 hp with rfl | hp
        · exact Int.le_refl _
        · have := h2 p hp; omega
      · refine ⟨v, by simp [h1], fun p hp => ?_⟩
        rcases List.mem_cons.1 hp with rfl | hp
        · omega
        · exact h2 p hp
theorem bound_exists {α : Type} (f : α → Int) : ∀ l : List α, ∃ K : Int, 0 < K ∧ ∀ p ∈ l, - K < f p ∧ f p < K := by
  intro l
  induction l with
  | nil => exact ⟨1, by omega, fun p hp => by simp at hp⟩
  | cons x l ih =>
    obtain ⟨K, h1, h2⟩ := ih
    refine ⟨K + (f x) * (f x) + 1, ?_, fun p hp => ?_⟩
    · have := sg2 (f x) (f x); omega
    · rcases List.mem_cons.1 hp with rfl | hp
      · have q : 0 ≤ f p * (f p - 1) := by rcases sg2 (f p) (f p - 1) with g | g | g | g | g | g | g | g | g <;> omega
        have q' : 0 ≤ f p * (f p + 1) := by rcases sg2 (f p) (f p + 1) with g | g | g | g | g | g | g | g | g <;> omega
        rw [Int.mul_sub, Int.mul_one] at q
        rw [Int.mul_add, Int.mul_one] at q'
        omega
      · have := h2 p hp
        have := sg2 (f x) (f x); omega
/-- A corner that is extreme, away from two points on one side of whose line some corner lies. -/
theorem ext_exists {P : List Pt} {s t p0 : Pt} (hs : s ∈ P) (ht : t ∈ P) (hn : s ≠ t) (h0 : p0 ∈ P) (h : 0 < side s t p0) : ∃ v ∈ P, v ≠ s ∧ v ≠ t ∧ ∃ dx dy, Ext P v dx dy := by
  let G : Pt → Int := fun p => (t.1 - s.1) * (p.1 - s.1) + (t.2 - s.2) * (p.2 - s.2)
  obtain ⟨K, k0, kb⟩ := bound_exists G P
  let H : Pt → Int := fun p => (2 * K) * side s t p + G p
  obtain ⟨v, v1, v2⟩ := max_exists H P (fun e => by rw [e] at hs; simp at hs)
  have z1 : side s t s = 0 := side_self2 _ _
  have z2 : side s t t = 0 := side_self3 _ _
  have Hs : H s = G s := by simp only [H]; rw [z1]; simp
  have Ht : H t = G t := by simp only [H]; rw [z2]; simp
  have H0 : K < H p0 := by
    simp only [H]
    have := kb p0 h0
    have q : 0 ≤ (2 * K) * (side s t p0 - 1) := pp0 (by omega) (by omega)
    rw [Int.mul_sub] at q
    omega
  have hv := v2 p0 h0
  refine ⟨v, v1, fun e => ?_, fun e => ?_, ?_⟩
  · subst e; have := kb v v1; omega
  · subst e; have := kb v v1; omega
  · refine ⟨(2 * K) * (t.2 - s.2) - (t.1 - s.1), - ((2 * K) * (t.1 - s.1)) - (t.2 - s.2), fun p hp hpv => ?_⟩
    have e : ((2 * K) * (t.2 - s.2) - (t.1 - s.1)) * (p.1 - v.1) + (- ((2 * K) * (t.1 - s.1)) - (t.2 - s.2)) * (p.2 - v.2) = H v - H p := by simp only [H, G]; unfold side; grind
    rw [e]
    have := v2 p hp
    rcases Int.lt_or_le 0 (H v - H p) with g | g
    · exact g
    · exfalso
      have e2 : (2 * K) * (side s t v - side s t p) = G p - G v := by
        have : H v = H p := by omega
        simp only [H] at this
        rw [Int.mul_sub]
        omega
      have b1 := kb p hp
      have b2 := kb v v1
      have e3 : side s t v - side s t p = 0 := by
        rcases sgn_cases (side s t v - side s t p) with m | m | m
        · have q : 0 ≤ (2 * K) * (-1 - (side s t v - side s t p)) := pp0 (by omega) (by omega)
          rw [Int.mul_sub] at q
          omega
        · exact m
        · have q : 0 ≤ (2 * K) * ((side s t v - side s t p) - 1) := pp0 (by omega) (by omega)
          rw [Int.mul_sub] at q
          omega
      rw [e3, Int.mul_zero] at e2
      have hd : 0 < (t.1 - s.1) * (t.1 - s.1) + (t.2 - s.2) * (t.2 - s.2) := sq_pos fun k => hn (Prod.ext (by omega) (by omega))
      have f1 : ((t.1 - s.1) * (t.1 - s.1) + (t.2 - s.2) * (t.2 - s.2)) * (p.1 - v.1) = 0 := by simp only [G] at e2; unfold side at e3; grind
      have f2 : ((t.1 - s.1) * (t.1 - s.1) + (t.2 - s.2) * (t.2 - s.2)) * (p.2 - v.2) = 0 := by simp only [G] at e2; unfold side at e3; grind
      have := (Int.mul_eq_zero.1 f1).resolve_left (by omega)
      have := (Int.mul_eq_zero.1 f2).resolve_left (by omega)
      exact hpv (Prod.ext (by omega) (by omega))
/-- On one line: the extreme one. -/
theorem ext_line {P : List Pt} {s t : Pt} (hs : s ∈ P) (hn : s ≠ t) (h : ∀ p ∈ P, side s t p = 0) : ∃ v ∈ P, ∃ dx dy, Ext P v dx dy := by
  let G : Pt → Int := fun p => (t.1 - s.1) * (p.1 - s.1) + (t.2 - s.2) * (p.2 - s.2)
  obtain ⟨v, v1, v2⟩ := max_exists (fun p => - G p) P (fun e => by rw [e] at hs; simp at hs)
  refine ⟨v, v1, t.1 - s.1, t.2 - s.2, fun p hp hpv => ?_⟩
  have e : (t.1 - s.1) * (p.1 - v.1) + (t.2 - s.2) * (p.2 - v.2) = G p - G v := by simp only [G]; grind
  rw [e]
  have := v2 p hp
  rcases Int.lt_or_le 0 (G p - G v) with g | g
  · exact g
  · exfalso
    have e2 : G p - G v = 0 := by omega
    have e3 : side s t v - side s t p = 0 := by rw [h v v1, h p hp]; rfl
    have hd : 0 < (t.1 - s.1) * (t.1 - s.1) + (t.2 - s.2) * (t.2 - s.2) := sq_pos fun k => hn (Prod.ext (by omega) (by omega))
    have f1 : ((t.1 - s.1) * (t.1 - s.1) + (t.2 - s.2) * (t.2 - s.2)) * (p.1 - v.1) = 0 := by simp only [G] at e2; unfold side at e3; grind
    have f2 : ((t.1 - s.1) * (t.1 - s.1) + (t.2 - s.2) * (t.2 - s.2)) * (p.2 - v.2) = 0 := by simp only [G] at e2; unfold side at e3; grind
    have := (Int.mul_eq_zero.1 f1).resolve_left (by omega)
    have := (Int.mul_eq_zero.1 f2).resolve_left (by omega)
    exact hpv (Prod.ext (by omega) (by omega))
end Go.Hu
