import Derived.Test.YtcpkcfgipfalaaaGreatPC
set_option linter.unusedVariables false
set_option linter.unusedSimpArgs false
set_option linter.unnecessarySimpa false
set_option linter.unusedSectionVars false
namespace Go.Hu
theorem good_congr {s : Bool} {ps qs : List Pt} (h : ∀ q, q ∈ qs → q ∈ ps) : ∀ (l : List Pt), Good s ps l → Good s qs l := by
 intro l
 induction l with
 | nil => intro g; exact g.elim
 | cons b r ih =>
  intro g
  cases r with
  | nil => exact fun q hq => g q (h q hq)
  | cons a r => exact ⟨g.1, fun q hq => g.2.1 q (h q hq), g.2.2.1, ih g.2.2.2⟩
def hullOf (ps : List Pt) : List Pt := ringOf (chain ps) (chain ps.reverse)
theorem cross_line {d u v : Pt} (hd : d ≠ (0, 0)) (h1 : cross d u = 0) (h2 : cross d v = 0) : cross u v = 0 := by
 have e1 : d.1 * cross u v = u.1 * cross d v - v.1 * cross d u := by unfold cross; grind
 have e2 : d.2 * cross u v = u.2 * cross d v - v.2 * cross d u := by unfold cross; grind
 rw [h1, h2, Int.mul_zero, Int.mul_zero] at e1 e2
 by_cases hx : d.1 = 0
 ·have hy : d.2 ≠ 0 := fun e => hd (Prod.ext hx e)
  rcases Int.mul_eq_zero.1 (by omega : d.2 * cross u v = 0) with h | h
  ·exact absurd h hy
  ·exact h
 ·rcases Int.mul_eq_zero.1 (by omega : d.1 * cross u v = 0) with h | h
  ·exact absurd h hx
  ·exact h
theorem asc_rev {s : Bool} {ps : List Pt} (h : Asc s ps) : Asc (!s) ps.reverse := by
 unfold Asc at *
 rw [List.pairwise_reverse]
 exact h.imp fun k => (before_not s).2 k
theorem two_of_ends {l : List Pt} {x y : Pt} (h1 : l.head? = some x) (h2 : l.getLast? = some y) (hne : x ≠ y) : 2 ≤ l.length := by
 match l with
 | [] => cases h1
 | [z] => simp at h1 h2; exact absurd (h1.symm.trans h2) hne
 | _ :: _ :: _ => simp
theorem hull_main {ps : List Pt} (ha : Asc true ps) (h2 : 2 ≤ ps.length) :
  ((hullOf ps).length < 3 → ∀ a b c, a ∈ ps → b ∈ ps → c ∈ ps → side a b c = 0) ∧ (3 ≤ (hullOf ps).length → IsHull ps (hullOf ps)) := by
 have hne : ps ≠ [] := fun e => by rw [e] at h2; simp at h2
 obtain ⟨g1, g2, g3, g4⟩ := chain_good ps.length ps rfl hne ha
 obtain ⟨k1, k2, k3, k4⟩ := chain_good (s := false) ps.reverse.length ps.reverse rfl (by simpa using hne) (asc_rev ha)
 rw [List.getLast?_reverse] at k3
 rw [List.head?_reverse] at k4
 have k1' : Good false ps (chain ps.reverse) := good_congr (fun q hq => by simpa using hq) _ k1
 have k2' : ∀ x ∈ chain ps.reverse, x ∈ ps := fun x hx => by simpa using k2 x hx
 -- the ends
 obtain ⟨x, t, rfl⟩ : ∃ x t, ps = x :: t := by
  cases ps with
  | nil => exact absurd rfl hne
  | cons x t => exact ⟨x, t, rfl⟩
 have htne : t ≠ [] := fun e => by subst e; simp at h2
 have hgl : (x :: t).getLast? = some (t.getLast htne) := by
  rw [List.getLast?_eq_some_getLast (by simp), List.getLast_cons htne]
 have hlt : ∀ q ∈ t, before true x q := (List.pairwise_cons.1 ha).1
 have hend : before true x (t.getLast htne) := hlt _ (List.getLast_mem htne)
 have hxy : t.getLast htne ≠ x := fun e => before_irrefl (e ▸ hend)
 have l1 : 2 ≤ (chain (x :: t)).length := two_of_ends (by rw [g3]; exact hgl) (by rw [g4]; rfl) hxy
 have l2 : 2 ≤ (chain (x :: t).reverse).length := two_of_ends (by rw [k3]; rfl) (by rw [k4]; exact hgl) (Ne.symm hxy)
 have e1 : (chain (x :: t)).head? = (chain (x :: t).reverse).getLast? := by rw [g3, k4]
 have e2 : (chain (x :: t).reverse).head? = (chain (x :: t)).getLast? := by rw [k3, g4]
 refine ⟨fun h3 a b c hA hB hC => ?_, fun h3 => ?_⟩
 ·obtain ⟨r1, _⟩ := ring_edges l1 l2 e1 e2
  unfold hullOf at h3
  have q1 : (chain (x :: t)).length = 2 := by omega
  have q2 : (chain (x :: t).reverse).length = 2 := by omega
  have f1 : (x, t.getLast htne) ∈ edgesOf (chain (x :: t)) := by
   rw [hgl] at g3
   refine edgesOf_idx _ 0 _ _ (by rw [← List.head?_eq_getElem?]; exact g3) ?_
   rw [List.getLast?_eq_getElem?, q1] at g4
   exact g4
  have f2 : (t.getLast htne, x) ∈ edgesOf (chain (x :: t).reverse) := by
   refine edgesOf_idx _ 0 _ _ (by rw [← List.head?_eq_getElem?]; exact k3) ?_
   rw [List.getLast?_eq_getElem?, q2] at k4
   rw [hgl] at k4
   exact k4
  have on : ∀ q ∈ x :: t, side x (t.getLast htne) q = 0 := fun q hq => by
   have := (good_edge _ g1 _ _ f1).2 q hq
   have h' := (good_edge _ k1' _ _ f2).2 q hq
   rw [side_swap] at h'
   omega
  have hd : vec x (t.getLast htne) ≠ (0, 0) := fun e => hxy (by
   unfold vec at e
   simp only [Prod.mk.injEq] at e
   exact Prod.ext (by omega) (by omega))
  have on2 : ∀ p q, p ∈ x :: t → q ∈ x :: t → cross (vec x (t.getLast htne)) (vec p q) = 0 := fun p q hp hq => by
   have i1 := on p hp
   have i2 := on q hq
   have : cross (vec x (t.getLast htne)) (vec p q) = side x (t.getLast htne) q - side x (t.getLast htne) p := by unfold side cross vec; grind
   omega
  rw [side_vec1]
  exact cross_line hd (on2 a b hA hB) (on2 a c hA hC)
 ·refine ring_hull g1 k1' g2 k2' l1 l2 e1 e2 h3 fun q hq => ?_
  rw [g4]
  rcases List.mem_cons.1 hq with rfl | hq
  ·exact .inl rfl
  ·exact .inr fun m hm => by cases hm; exact hlt q hq
def pv (h : List Pt) (i : Nat) : Nat := (i + h.length - 1) % h.length
theorem nx_pv {h : List Pt} {i : Nat} (hi : i < h.length) : nx h (pv h i) = i := by
 unfold nx pv
 by_cases h0 : i = 0
 ·subst h0
  have : (0 + h.length - 1) % h.length = h.length - 1 := by rw [show 0 + h.length - 1 = h.length - 1 by omega]; exact Nat.mod_eq_of_lt (by omega)
  rw [this, Nat.sub_add_cancel (by omega), Nat.mod_self]
 ·have : (i + h.length - 1) % h.length = i - 1 := by
   rw [show i + h.length - 1 = (i - 1) + h.length by omega, Nat.add_mod_right]
   exact Nat.mod_eq_of_lt (by omega)
  rw [this, Nat.sub_add_cancel (by omega), Nat.mod_eq_of_lt hi]
theorem nx_val {h : List Pt} {i : Nat} (hi : i < h.length) : nx h i = if i + 1 = h.length then 0 else i + 1 := by
 unfold nx
 split
 ·rename_i e; rw [e, Nat.mod_self]
 ·exact Nat.mod_eq_of_lt (by omega)
theorem pv_val {h : List Pt} {i : Nat} (hi : i < h.length) : pv h i = if i = 0 then h.length - 1 else i - 1 := by
 unfold pv
 split
 ·rename_i e; subst e; rw [show 0 + h.length - 1 = h.length - 1 by omega]; exact Nat.mod_eq_of_lt (by omega)
 ·rw [show i + h.length - 1 = (i - 1) + h.length by omega, Nat.add_mod_right]
  exact Nat.mod_eq_of_lt (by omega)
section
variable {S S' h h' : List Pt}
theorem Ring.mem (R : Ring S h) {i : Nat} (hi : i < h.length) : at_ h i ∈ S := R.sub _ (at_mem hi)
theorem Ring.pos (R : Ring S h) : 0 < h.length := by have := R.len; omega
theorem Ring.turn (R : Ring S h) {i : Nat} (hi : i < h.length) : 0 < side (at_ h (pv h i)) (at_ h i) (at_ h (nx h i)) := by
 have hl := R.len
 have hp : pv h i < h.length := Nat.mod_lt _ (by omega)
 have := R.strict (pv h i) hp (nx h i) (nx_lt R.pos i) (by rw [nx_val hi, pv_val hi]; split <;> split <;> omega) (by rw [nx_pv hi, nx_val hi]; split <;> omega)
 rwa [nx_pv hi] at this
theorem Ring.inj (R : Ring S h) {i j : Nat} (hi : i < h.length) (hj : j < h.length) (e : at_ h i = at_ h j) : i = j := by
 have hl := R.len
 by_cases hij : i = j
 ·exact hij
 ·exfalso
  by_cases hn : j = nx h i
  ·have := R.turn hi
   rw [← hn, ← e] at this
   rw [side_self3] at this; omega
  ·have := R.strict i hi j hj (Ne.symm hij) hn
   rw [← e, side_self2] at this; omega
theorem Ring.seg (R : Ring S h) {i : Nat} (hi : i < h.length) {x : Pt} (hx : x ∈ S) (hs : side (at_ h i) (at_ h (nx h i)) x = 0) :
  ∃ A A' : Int, 0 < A ∧ 0 ≤ A' ∧ A' ≤ A ∧ A * (x.1 - (at_ h i).1) = A' * ((at_ h (nx h i)).1 - (at_ h i).1) ∧ A * (x.2 - (at_ h i).2) = A' * ((at_ h (nx h i)).2 - (at_ h i).2) := by
 have hl := R.len
 have hp : pv h i < h.length := Nat.mod_lt _ (by omega)
 have hn := nx_lt R.pos i
 have hA := R.turn hi
 have hA' := R.left (pv h i) hp x hx
 rw [nx_pv hi] at hA'
 have hC := R.turn hn
 have e0 : pv h (nx h i) = i := by
  rw [pv_val hn, nx_val hi]; split <;> split <;> omega
 rw [e0] at hC
 have hD := R.left (nx h i) hn x hx
 generalize at_ h (pv h i) = z at *
 generalize at_ h (nx h (nx h i)) = c at *
 generalize at_ h (nx h i) = b at *
 generalize at_ h i = v at *
 refine ⟨side z v b, side z v x, hA, hA', ?_, ?_, ?_⟩
 ·
  have id : side z v x * side v b c = side z v b * (side v b c - side b c x) + (side v b x) * ((v.1 - z.1) * (c.2 - b.2) - (v.2 - z.2) * (c.1 - b.1)) := by unfold side; grind
  rw [hs, Int.zero_mul, Int.add_zero] at id
  have le : side z v b * (side v b c - side b c x) ≤ side z v b * side v b c := Int.mul_le_mul_of_nonneg_left (by omega) (by omega)
  rw [← id] at le
  exact Int.le_of_mul_le_mul_right le hC
 ·have id : side z v b * (x.1 - v.1) - side z v x * (b.1 - v.1) = - (v.1 - z.1) * side v b x := by unfold side; grind
  rw [hs, Int.mul_zero] at id; omega
 ·have id : side z v b * (x.2 - v.2) - side z v x * (b.2 - v.2) = - (v.2 - z.2) * side v b x := by unfold side; grind
  rw [hs, Int.mul_zero] at id; omega
theorem ratio_eq {A A' B B' x y : Int} (hA : 0 < A) (hA' : 0 ≤ A') (hAA : A' ≤ A) (hB : 0 < B) (hB' : 0 ≤ B') (hBB : B' ≤ B) (e1 : A * x = A' * y) (e2 : B * y = B' * x) : x = y := by
 rcases (by omega : x = 0 ∨ 0 < x ∨ x < 0) with h | h | h
 ·subst h
  rw [Int.mul_zero] at e2
  rcases Int.mul_eq_zero.1 e2 with h | h <;> omega
 ·
  have hy : 0 ≤ y := nn_of_mul (b := B) (by rw [Int.mul_comm, e2]; exact mul_nn hB' (by omega)) hB
  have h1 : A * x ≤ A * y := by rw [e1]; exact Int.mul_le_mul_of_nonneg_right hAA hy
  have h2 : B * y ≤ B * x := by rw [e2]; exact Int.mul_le_mul_of_nonneg_right hBB (by omega)
  have := Int.le_of_mul_le_mul_left h1 hA
  have := Int.le_of_mul_le_mul_left h2 hB
  omega
 ·have hy : 0 ≤ -y := nn_of_mul (b := B) (by
   have e : -y * B = B' * -x := by rw [Int.neg_mul, Int.mul_comm y B, e2, Int.mul_neg]
   rw [e]; exact mul_nn hB' (by omega)) hB
  have h1 : A * -x ≤ A * -y := by rw [Int.mul_neg, Int.mul_neg, e1, ← Int.mul_neg, ← Int.mul_neg]; exact Int.mul_le_mul_of_nonneg_right hAA hy
  have h2 : B * -y ≤ B * -x := by rw [Int.mul_neg, Int.mul_neg, e2, ← Int.mul_neg, ← Int.mul_neg]; exact Int.mul_le_mul_of_nonneg_right hBB (by omega)
  have := Int.le_of_mul_le_mul_left h1 hA
  have := Int.le_of_mul_le_mul_left h2 hB
  omega
theorem Ring.next (R : Ring S h) (R' : Ring S' h') (hS : ∀ x, x ∈ S ↔ x ∈ S') {i j : Nat} (hi : i < h.length) (hj : j < h'.length) (e : at_ h i = at_ h' j) : at_ h (nx h i) = at_ h' (nx h' j) := by
 have m1 := (hS _).1 (R.mem (nx_lt R.pos i))
 have m2 := (hS _).2 (R'.mem (nx_lt R'.pos j))
 have s1 := R.left i hi _ m2
 have s2 := R'.left j hj _ m1
 rw [← e] at s2
 have hs : side (at_ h i) (at_ h (nx h i)) (at_ h' (nx h' j)) = 0 := by
  have : side (at_ h i) (at_ h' (nx h' j)) (at_ h (nx h i)) = - side (at_ h i) (at_ h (nx h i)) (at_ h' (nx h' j)) := by unfold side; grind
  omega
 have hs' : side (at_ h' j) (at_ h' (nx h' j)) (at_ h (nx h i)) = 0 := by
  rw [← e]
  have : side (at_ h i) (at_ h' (nx h' j)) (at_ h (nx h i)) = - side (at_ h i) (at_ h (nx h i)) (at_ h' (nx h' j)) := by unfold side; grind
  omega
 obtain ⟨A, A', a1, a2, a3, a4, a5⟩ := R.seg hi m2 hs
 obtain ⟨B, B', b1, b2, b3, b4, b5⟩ := R'.seg hj m1 hs'
 rw [← e] at b4 b5
 have r1 := ratio_eq a1 a2 a3 b1 b2 b3 a4 b4
 have r2 := ratio_eq a1 a2 a3 b1 b2 b3 a5 b5
 exact Prod.ext (by omega) (by omega)
theorem before_asymm {s : Bool} {x y : Pt} (h : before s x y) (k : before s y x) : False := before_irrefl (before_trans h k)
theorem Ring.congr (R : Ring S h) (hS : ∀ x, x ∈ S ↔ x ∈ S') : Ring S' h := ⟨R.len, fun x hx => (hS x).1 (R.sub x hx), fun i hi q hq => R.left i hi q ((hS q).2 hq), R.strict⟩
theorem IsHull.congr (R : IsHull S h) (hS : ∀ x, x ∈ S ↔ x ∈ S') : IsHull S' h := ⟨R.toRing.congr hS, fun q hq => R.first q ((hS q).2 hq)⟩
theorem Ring.least (R : Ring S h) : ∃ s, s < h.length ∧ ∀ q ∈ S, q = at_ h s ∨ before true (at_ h s) q := by
 -- the smallest corner
 have hex : ∀ (l : List Pt), l ≠ [] → ∃ m ∈ l, ∀ q ∈ l, q = m ∨ before true m q := by
  intro l
  induction l with
  | nil => intro e; exact absurd rfl e
  | cons a l ih =>
   intro _
   by_cases hl : l = []
   ·subst hl; exact ⟨a, by simp, fun q hq => .inl (by simpa using hq)⟩
   ·obtain ⟨m, h1, h2⟩ := ih hl
    rcases before_total true a m with h | rfl | h
    ·refine ⟨a, by simp, fun q hq => ?_⟩
     rcases List.mem_cons.1 hq with rfl | hq
     ·exact .inl rfl
     ·rcases h2 q hq with rfl | k
      ·exact .inr h
      ·exact .inr (before_trans h k)
    ·refine ⟨a, by simp, fun q hq => ?_⟩
     rcases List.mem_cons.1 hq with rfl | hq
     ·exact .inl rfl
     ·exact h2 q hq
    ·refine ⟨m, by simp [h1], fun q hq => ?_⟩
     rcases List.mem_cons.1 hq with rfl | hq
     ·exact .inr h
     ·exact h2 q hq
 have hl := R.len
 obtain ⟨m, hm, hmin⟩ := hex h (fun e => by rw [e] at hl; simp at hl)
 obtain ⟨s, hs, rfl⟩ := mem_at hm
 refine ⟨s, hs, fun q hq => ?_⟩
 rcases before_total true q (at_ h s) with hb | rfl | hb
 ·exfalso
  have hn := nx_lt R.pos s
  have hp : pv h s < h.length := Nat.mod_lt _ R.pos
  have t := R.turn hs
  have l1 := R.left s hs q hq
  have l2 := R.left (pv h s) hp q hq
  rw [nx_pv hs] at l2
  have n1 : nx h s ≠ s := by rw [nx_val hs]; split <;> omega
  have n2 : pv h s ≠ s := by rw [pv_val hs]; split <;> omega
  have b1 : before true (at_ h s) (at_ h (nx h s)) := by
   rcases hmin _ (at_mem hn) with e | e
   ·exact absurd (R.inj hn hs e) n1
   ·exact e
  have b2 : before true (at_ h s) (at_ h (pv h s)) := by
   rcases hmin _ (at_mem hp) with e | e
   ·exact absurd (R.inj hp hs e) n2
   ·exact e
  generalize at_ h (pv h s) = w at *
  generalize at_ h (nx h s) = u at *
  generalize at_ h s = v at *
  have c1 : 0 ≤ cross (vec q v) (vec v u) := by rw [← side_vec3]; exact l1
  have c2 : 0 ≤ cross (vec v w) (vec q v) := by
   have : side w v q = cross (vec v w) (vec q v) := by unfold side cross vec; grind
   omega
  have c3 := cross_nn (pos_vec b2) (pos_vec hb) (pos_vec b1) c2 c1
  have c4 : side w v u = - cross (vec v w) (vec v u) := by unfold side cross vec; grind
  omega
 ·exact .inl rfl
 ·exact .inr hb
end
end Go.Hu
namespace Go.Hu
def ptLe (a b : Pt) : Bool := decide (a.1 < b.1) || (decide (a.1 = b.1) && decide (a.2 ≤ b.2))
def sortPts (l : List Pt) : List Pt := l.mergeSort ptLe
theorem ptLe_iff {a b : Pt} : ptLe a b = true ↔ before true a b ∨ a = b := by
 simp only [ptLe, Bool.or_eq_true, Bool.and_eq_true, decide_eq_true_eq, before]
 rw [Prod.ext_iff]
 omega
theorem sort_mem {l : List Pt} {x : Pt} : x ∈ sortPts l ↔ x ∈ l := (List.mergeSort_perm l ptLe).mem_iff
theorem sort_length (l : List Pt) : (sortPts l).length = l.length := (List.mergeSort_perm l ptLe).length_eq
theorem sort_sorted (l : List Pt) : (sortPts l).Pairwise fun a b => ptLe a b = true := by
 refine List.pairwise_mergeSort (fun a b c => ?_) (fun a b => ?_) l
 ·rw [ptLe_iff, ptLe_iff, ptLe_iff]
  rintro (h | rfl) (k | rfl)
  ·exact .inl (before_trans h k)
  ·exact .inl h
  ·exact .inl k
  ·exact .inr rfl
 ·simp only [Bool.or_eq_true, ptLe_iff]
  rcases before_total true a b with h | h | h
  ·exact .inl (.inl h)
  ·exact .inl (.inr h)
  ·exact .inr (.inl h)
def ddf (l : List Pt) : List Pt := l.foldl (fun acc x => if acc.getLast? = some x then acc else acc ++ [x]) []
theorem ddf_snoc (l : List Pt) (x : Pt) : ddf (l ++ [x]) = if (ddf l).getLast? = some x then ddf l else ddf l ++ [x] := by unfold ddf; rw [List.foldl_append]; rfl
theorem ddf_last : ∀ (n : Nat) (l : List Pt), l.length = n → (ddf l).getLast? = l.getLast? := by
 intro n
 induction n with
 | zero => intro l h; rw [List.eq_nil_of_length_eq_zero h]; rfl
 | succ n ih =>
  intro l h
  have hne : l ≠ [] := fun e => by subst e; simp at h
  obtain ⟨m, x, rfl⟩ : ∃ m x, l = m ++ [x] := ⟨l.dropLast, l.getLast hne, (List.dropLast_concat_getLast hne).symm⟩
  rw [ddf_snoc]
  split
  ·rename_i e; rw [e]; simp
  ·simp
theorem ddf_snoc' (l : List Pt) (x : Pt) : ddf (l ++ [x]) = if l.getLast? = some x then ddf l else ddf l ++ [x] := by
 rw [ddf_snoc, ddf_last _ l rfl]
theorem ddf_main : ∀ (n : Nat) (l : List Pt), l.length = n → (∀ x, x ∈ ddf l ↔ x ∈ l) ∧ ((l.Pairwise fun a b => ptLe a b = true) → Asc true (ddf l)) ∧ (ddf l).length ≤ l.length := by
 intro n
 induction n with
 | zero => intro l h; rw [List.eq_nil_of_length_eq_zero h]; simp [ddf, Asc]
 | succ n ih =>
  intro l h
  have hne : l ≠ [] := fun e => by subst e; simp at h
  obtain ⟨m, x, rfl⟩ : ∃ m x, l = m ++ [x] := ⟨l.dropLast, l.getLast hne, (List.dropLast_concat_getLast hne).symm⟩
  obtain ⟨i1, i2, i3⟩ := ih m (by simp at h; omega)
  rw [ddf_snoc']
  split
  ·rename_i e
   have hx : x ∈ m := List.mem_of_getLast? e
   refine ⟨fun y => ?_, fun hp => i2 (List.pairwise_append.1 hp).1, by simp; omega⟩
   rw [i1 y, List.mem_append, List.mem_singleton]
   constructor
   ·exact .inl
   ·rintro (h | rfl)
    ·exact h
    ·exact hx
  ·rename_i e
   refine ⟨fun y => by simp only [List.mem_append, List.mem_singleton, i1 y], fun hp => ?_, by simp; omega⟩
   obtain ⟨p1, p2, p3⟩ := List.pairwise_append.1 hp
   refine List.pairwise_append.2 ⟨i2 p1, List.pairwise_singleton _ _, fun y hy z hz => ?_⟩
   simp only [List.mem_singleton] at hz
   subst hz
   -- y is not behind the last one, and the last one is not z
   cases hm : m.getLast? with
   | none =>
    rw [List.getLast?_eq_none_iff] at hm
    subst hm
    simp [ddf] at hy
   | some w =>
    have hwz : before true w z := by
     rcases ptLe_iff.1 (p3 w (List.mem_of_getLast? hm) z (by simp)) with h | h
     ·exact h
     ·exact absurd (by rw [hm, h]) e
    obtain ⟨m', rfl⟩ := List.getLast?_eq_some_iff.1 hm
    have hy' := (i1 y).1 hy
    rcases List.mem_append.1 hy' with h1 | h1
    ·rcases ptLe_iff.1 ((List.pairwise_append.1 p1).2.2 y h1 w (by simp)) with h2 | h2
     ·exact before_trans h2 hwz
     ·rw [h2]; exact hwz
    ·simp only [List.mem_singleton] at h1
     rw [h1]; exact hwz
theorem ddf_short {l : List Pt} (h : l.length < 2) : ddf l = l := by
 match l with
 | [] => rfl
 | [x] => simp [ddf]
def hullRes (l : List Pt) : List Pt × Bool :=
 let d := ddf (sortPts l)
 if d.length < 3 then ([], false) else if (hullOf d).length < 3 then ([], false) else (hullOf d, true)
theorem hullRes_spec (l : List Pt) : ((hullRes l) = ([], false) ∧ ∀ a b c, a ∈ l → b ∈ l → c ∈ l → side a b c = 0) ∨ (∃ h, hullRes l = (h, true) ∧ IsHull l h) := by
 obtain ⟨d1, d2, d3⟩ := ddf_main _ (sortPts l) rfl
 have ha := d2 (sort_sorted l)
 have hm : ∀ x, x ∈ ddf (sortPts l) ↔ x ∈ l := fun x => (d1 x).trans sort_mem
 unfold hullRes
 simp only
 split
 ·rename_i hlt
  left
  refine ⟨rfl, fun a b c ha hb hc => ?_⟩
  rw [← hm] at ha hb hc
  generalize ddf (sortPts l) = d at *
  match d with
  | [] => simp at ha
  | [x] =>
   simp at ha hb
   subst ha; subst hb
   exact side_self1 _ _
  | [x, y] =>
   simp only [List.mem_cons, List.not_mem_nil, or_false] at ha hb hc
   rcases ha with rfl | rfl <;> rcases hb with rfl | rfl <;> rcases hc with rfl | rfl <;> simp [side_self1, side_self2, side_self3]
  | _ :: _ :: _ :: _ => exfalso; simp only [List.length_cons] at hlt; omega
 ·rename_i hge
  obtain ⟨m1, m2⟩ := hull_main ha (by omega)
  split
  ·rename_i h3
   exact .inl ⟨rfl, fun a b c ha hb hc => m1 h3 a b c ((hm a).2 ha) ((hm b).2 hb) ((hm c).2 hc)⟩
  ·rename_i h3
   exact .inr ⟨_, rfl, (m2 (by omega)).congr hm⟩
end Go.Hu
namespace Go.Rm
open Go Go.Am
def rulesL : List ((Int × Int) × List AV) :=
  [((1, 1), [AV.func (.func 157) [] []]), ((1, 2), [AV.func (.func 158) [] []]), ((1, 3), [AV.func (.func 159) [] []]), ((1, 4), [AV.func (.func 160) [] []]),
   ((2, 2), [AV.func (.func 160) [] []]), ((2, 3), [AV.func (.func 160) [] []]), ((2, 4), [AV.func (.func 160) [] []])]
def specRules : SpecF where
 run := fun args h k => match args with
  | [] => k (.map h.length) (h ++ [.mapv (.pair (.int .i64) (.int .i64)) true rulesL])
  | _ => none
def specMoves : SpecF where
 run := fun args h k => match args, h with
  | [.agg [.int .i64 kd, .int .i64 i, .int .i64 j, .slice o e xs], .ptr 0 0], [.var [.int .i64 a, .int .i64 jt, .int .i64 by']] =>
   k (.bool (decide (i = a) && (decide (kd = 1) && decide (jt ≤ j) || decide (kd = 2)))) [.var [.int .i64 a, .int .i64 jt, .int .i64 by'], .var [.int .i64 kd, .int .i64 i, .int .i64 j, .slice o e xs]]
  | _, _ => none
def specHTab (g : FuncId) : Option SpecF := if g = 90 then some (specClone PtT) else if g = 128 then some (specClone PtT) else if g = 129 then some (specSort PtT 130 Hu.sortPts) else if g = 34 then some (specRev MvT) else if g = 102 then some specMoves else if g = 137 then some specRules else none
end Go.Rm
