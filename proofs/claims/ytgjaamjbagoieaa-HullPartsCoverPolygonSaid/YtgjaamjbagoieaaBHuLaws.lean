import Derived.Test.YtgjaamjbagoieaaBHuSweep
set_option linter.unusedVariables false
set_option linter.unusedSimpArgs false
set_option linter.unnecessarySimpa false
/-
  PLAIN MATHEMATICS: the laws of swept regions.
-/
namespace Go.Hu

theorem Ring.len_le {S h : List Pt} (R : Ring S h) : h.length ≤ S.length := by
  refine nodup_le h _ ?_ R.sub
  unfold List.Nodup
  rw [List.pairwise_iff_getElem]
  intro i j hi hj hij e
  have e1 : at_ h i = h[i] := at_of (List.getElem?_eq_getElem hi)
  have e2 : at_ h j = h[j] := at_of (List.getElem?_eq_getElem hj)
  have := R.inj hi hj (by rw [e1, e2]; exact e)
  omega
/-- A hull does not lie on one line. -/
theorem Ring.not_line {S h : List Pt} (R : Ring S h) (hl : ∀ a b c, a ∈ S → b ∈ S → c ∈ S → side a b c = 0) : False := by
  have h3 := R.len
  have := R.strict 0 R.pos 2 (by omega) (by omega) (by rw [nx_val R.pos]; split <;> omega)
  have h0 := hl _ _ _ (R.mem R.pos) (R.mem (nx_lt R.pos 0)) (R.mem (i := 2) (by omega))
  omega
theorem hullRes_len (l : List Pt) : (hullRes l).1.length ≤ l.length := by
  rcases hullRes_spec l with ⟨h, _⟩ | ⟨h, e, H⟩
  · rw [h]; simp
  · rw [e]; exact H.len_le
theorem hullRes_mem (l : List Pt) : ∀ x ∈ (hullRes l).1, x ∈ l := by
  rcases hullRes_spec l with ⟨h, _⟩ | ⟨h, e, H⟩
  · rw [h]; simp
  · rw [e]; exact H.sub
theorem hullRes_eq {S h : List Pt} (H : IsHull S h) : hullRes S = (h, true) := by
  rcases hullRes_spec S with ⟨_, h2⟩ | ⟨h', h1, H'⟩
  · exact (H.not_line h2).elim
  · rw [h1, H'.unique H fun _ => Iff.rfl]
theorem hullRes_line {S : List Pt} (hl : ∀ a b c, a ∈ S → b ∈ S → c ∈ S → side a b c = 0) : hullRes S = ([], false) := by
  rcases hullRes_spec S with ⟨h1, _⟩ | ⟨h', h1, H'⟩
  · exact h1
  · exact (H'.not_line hl).elim
theorem hullRes_congr {S S' : List Pt} (hS : ∀ x, x ∈ S ↔ x ∈ S') : hullRes S = hullRes S' := by
  rcases hullRes_spec S with ⟨h1, h2⟩ | ⟨h, h1, H⟩
  · rw [h1, hullRes_line fun a b c ha hb hc => h2 a b c ((hS a).2 ha) ((hS b).2 hb) ((hS c).2 hc)]
  · rw [h1, hullRes_eq (H.congr hS)]

theorem at_map {h : List Pt} {f : Pt → Pt} {i : Nat} (hi : i < h.length) : at_ (h.map f) i = f (at_ h i) := at_of (by rw [List.getElem?_map, get_at hi]; rfl)
theorem nx_map {h : List Pt} {f : Pt → Pt} {i : Nat} : nx (h.map f) i = nx h i := by simp [nx]
theorem Ring.map {S h : List Pt} (R : Ring S h) {f : Pt → Pt} (hf : ∀ a b c, side (f a) (f b) (f c) = side a b c) : Ring (S.map f) (h.map f) := by
  refine ⟨by simpa using R.len, fun x hx => ?_, fun i hi q hq => ?_, fun i hi j hj h1 h2 => ?_⟩
  · obtain ⟨y, hy, rfl⟩ := List.mem_map.1 hx
    exact List.mem_map_of_mem (R.sub y hy)
  · have hi' : i < h.length := by simpa using hi
    obtain ⟨y, hy, rfl⟩ := List.mem_map.1 hq
    rw [nx_map, at_map hi', at_map (nx_lt R.pos i), hf]
    exact R.left i hi' y hy
  · have hi' : i < h.length := by simpa using hi
    have hj' : j < h.length := by simpa using hj
    rw [nx_map] at h2
    rw [nx_map, at_map hi', at_map (nx_lt R.pos i), at_map hj', hf]
    exact R.strict i hi' j hj' h1 h2
theorem IsHull.map {S h : List Pt} (R : IsHull S h) {f : Pt → Pt} (hf : ∀ a b c, side (f a) (f b) (f c) = side a b c) (hb : ∀ a b, before true a b → before true (f a) (f b)) : IsHull (S.map f) (h.map f) := by
  refine ⟨R.toRing.map hf, fun q hq => ?_⟩
  obtain ⟨y, hy, rfl⟩ := List.mem_map.1 hq
  rw [at_map R.pos]
  rcases R.first y hy with h | h
  · exact .inl (by rw [h])
  · exact .inr (hb _ _ h)
theorem hullRes_map (S : List Pt) {f : Pt → Pt} (hf : ∀ a b c, side (f a) (f b) (f c) = side a b c) (hb : ∀ a b, before true a b → before true (f a) (f b)) : hullRes (S.map f) = ((hullRes S).1.map f, (hullRes S).2) := by
  rcases hullRes_spec S with ⟨h1, h2⟩ | ⟨h, h1, H⟩
  · rw [h1, hullRes_line]
    · rfl
    · intro a b c ha hb' hc
      obtain ⟨a, ka, rfl⟩ := List.mem_map.1 ha
      obtain ⟨b, kb, rfl⟩ := List.mem_map.1 hb'
      obtain ⟨c, kc, rfl⟩ := List.mem_map.1 hc
      rw [hf]; exact h2 a b c ka kb kc
  · rw [h1, hullRes_eq (H.map hf hb)]

/-! ### Moved -/
def shiftP (c x : Pt) : Pt := (x.1 + c.1, x.2 + c.2)
theorem shift_side (t a b c : Pt) : side (shiftP t a) (shiftP t b) (shiftP t c) = side a b c := by unfold side shiftP; grind
theorem shift_before (t a b : Pt) (h : before true a b) : before true (shiftP t a) (shiftP t b) := by simp only [before, shiftP] at *; omega
theorem outer_shift (t o a b : Pt) : outerP (shiftP t o) (shiftP t a) (shiftP t b) = shiftP t (outerP o a b) := by
  unfold outerP shiftP outerC
  simp only
  rw [show a.1 + t.1 + (b.1 + t.1) - 2 * (o.1 + t.1) = a.1 + b.1 - 2 * o.1 by omega, show a.2 + t.2 + (b.2 + t.2) - 2 * (o.2 + t.2) = a.2 + b.2 - 2 * o.2 by omega]
  exact Prod.ext (by simp only; omega) (by simp only; omega)
theorem points_map (f : Pt → Pt) {o o' : Pt} (hf : ∀ a b, outerP o' (f a) (f b) = f (outerP o a b)) (a b : List Pt) : points o' (a.map f) (b.map f) = (points o a b).map f := by
  unfold points
  rw [List.map_append, List.map_append]
  congr 1
  rw [List.zipWith_map, List.map_zipWith]
  congr 1
  funext x y
  exact hf x y

/-! ### Either way -/
theorem outer_comm (o a b : Pt) : outerP o a b = outerP o b a := by
  unfold outerP outerC
  rw [show a.1 + b.1 = b.1 + a.1 by omega, show a.2 + b.2 = b.2 + a.2 by omega]
theorem points_comm (o : Pt) (a b : List Pt) : ∀ x, x ∈ points o a b ↔ x ∈ points o b a := by
  intro x
  have : List.zipWith (outerP o) a b = List.zipWith (outerP o) b a := by
    rw [List.zipWith_comm]
    congr 1
    funext p q
    exact outer_comm _ _ _
  unfold points
  rw [this]
  simp only [List.mem_append]
  rw [Or.comm (a := x ∈ a)]

/-! ### Fewer corners -/
theorem points_take (o : Pt) (a b : List Pt) (n : Nat) : ∀ x ∈ points o (a.take n) (b.take n), x ∈ points o a b := by
  intro x hx
  unfold points at *
  simp only [List.mem_append] at *
  rcases hx with (hx | hx) | hx
  · exact .inl (.inl (List.mem_of_mem_take hx))
  · exact .inl (.inr (List.mem_of_mem_take hx))
  · rw [← List.take_zipWith] at hx
    exact .inr (List.mem_of_mem_take hx)

/-- How far an outer point is from the pivot. -/
theorem outer_far (o a b : Pt) (M : Int) (ha : far a o ≤ M) (hb : far b o ≤ M) : 64 * far (outerP o a b) o ≤ 81 * M := by
  have key : ∀ s t : Int, ∃ r : Int, (9 * (s + t)).tdiv 16 = r ∧ 256 * (r * r) ≤ 81 * ((s + t) * (s + t)) := by
    intro s t
    refine ⟨_, rfl, ?_⟩
    obtain ⟨t1, t2⟩ := tdiv16 (9 * (s + t))
    have h : ∃ r : Int, (9 * (s + t)).tdiv 16 = r ∧ ((0 ≤ r ∧ 16 * r ≤ 9 * (s + t)) ∨ (r ≤ 0 ∧ 9 * (s + t) ≤ 16 * r)) := by
      refine ⟨_, rfl, ?_⟩
      by_cases h : 0 ≤ 9 * (s + t)
      · rw [t1 h]; left; omega
      · rw [t2 (by omega)]; right; omega
    obtain ⟨r, hr, h⟩ := h
    rw [hr]
    rcases h with ⟨h1, h2⟩ | ⟨h1, h2⟩
    · have := Int.mul_le_mul h2 h2 (by omega) (by omega)
      have e1 : 16 * r * (16 * r) = 256 * (r * r) := by grind
      have e2 : 9 * (s + t) * (9 * (s + t)) = 81 * ((s + t) * (s + t)) := by grind
      omega
    · have := Int.mul_le_mul (show -(16 * r) ≤ -(9 * (s + t)) by omega) (show -(16 * r) ≤ -(9 * (s + t)) by omega) (by omega) (by omega)
      have e1 : -(16 * r) * -(16 * r) = 256 * (r * r) := by grind
      have e2 : -(9 * (s + t)) * -(9 * (s + t)) = 81 * ((s + t) * (s + t)) := by grind
      omega
  have sq : ∀ s t : Int, (s + t) * (s + t) ≤ 2 * (s * s) + 2 * (t * t) := by
    intro s t
    have h : 0 ≤ (s - t) * (s - t) := by
      rcases (by omega : 0 ≤ s - t ∨ s - t ≤ 0) with h | h
      · exact mul_nn h h
      · have := mul_nn (show 0 ≤ -(s - t) by omega) (show 0 ≤ -(s - t) by omega)
        have e : -(s - t) * -(s - t) = (s - t) * (s - t) := by grind
        omega
    have e : 2 * (s * s) + 2 * (t * t) = (s + t) * (s + t) + (s - t) * (s - t) := by grind
    omega
  obtain ⟨r1, e1, k1⟩ := key (a.1 - o.1) (b.1 - o.1)
  obtain ⟨r2, e2, k2⟩ := key (a.2 - o.2) (b.2 - o.2)
  have s1 := sq (a.1 - o.1) (b.1 - o.1)
  have s2 := sq (a.2 - o.2) (b.2 - o.2)
  have f1 : far (outerP o a b) o = r1 * r1 + r2 * r2 := by
    unfold far outerP outerC
    simp only
    rw [show a.1 + b.1 - 2 * o.1 = a.1 - o.1 + (b.1 - o.1) by omega, show a.2 + b.2 - 2 * o.2 = a.2 - o.2 + (b.2 - o.2) by omega, e1, e2]
    rw [show o.1 + r1 - o.1 = r1 by omega, show o.2 + r2 - o.2 = r2 by omega]
  rw [f1]
  unfold far at ha hb
  omega

/-! ### A quarter turn -/
def quart (o x : Pt) : Pt := (o.1 - (x.2 - o.2), o.2 + x.1 - o.1)
theorem quart_side (o a b c : Pt) : side (quart o a) (quart o b) (quart o c) = side a b c := by unfold side quart; grind
theorem quart_inj (o a b : Pt) (h : quart o a = quart o b) : a = b := by
  unfold quart at h
  simp only [Prod.mk.injEq] at h
  exact Prod.ext (by omega) (by omega)
theorem outer_quart (o a b : Pt) : outerP o (quart o a) (quart o b) = quart o (outerP o a b) := by
  unfold outerP quart outerC
  simp only
  have e1 : 9 * (o.1 - (a.2 - o.2) + (o.1 - (b.2 - o.2)) - 2 * o.1) = -(9 * (a.2 + b.2 - 2 * o.2)) := by omega
  have e2 : 9 * (o.2 + a.1 - o.1 + (o.2 + b.1 - o.1) - 2 * o.2) = 9 * (a.1 + b.1 - 2 * o.1) := by omega
  rw [e1, e2, Int.neg_tdiv]
  exact Prod.ext (by simp only; omega) (by simp only; omega)

/-- The same way round, from another corner. -/
def rot (s : Nat) (h : List Pt) : List Pt := (List.range h.length).map fun i => at_ h ((i + s) % h.length)
theorem rot_len (s : Nat) (h : List Pt) : (rot s h).length = h.length := by simp [rot]
theorem rot_at {s i : Nat} {h : List Pt} (hi : i < h.length) : at_ (rot s h) i = at_ h ((i + s) % h.length) := by
  refine at_of ?_
  unfold rot
  rw [List.getElem?_map, List.getElem?_range hi]
  rfl
theorem Ring.rot {S h : List Pt} (R : Ring S h) (s : Nat) : Ring S (rot s h) := by
  have hp := R.pos
  have hm : ∀ i, (i + s) % h.length < h.length := fun i => Nat.mod_lt _ hp
  have hnx : ∀ i, i < h.length → (nx (Hu.rot s h) i + s) % h.length = nx h ((i + s) % h.length) := fun i hi => by
    unfold nx
    rw [rot_len, Nat.mod_add_mod, Nat.mod_add_mod]
    congr 1
    omega
  refine ⟨by rw [rot_len]; exact R.len, fun x hx => ?_, fun i hi q hq => ?_, fun i hi j hj h1 h2 => ?_⟩
  · obtain ⟨i, hi, rfl⟩ := mem_at hx
    rw [rot_len] at hi
    rw [rot_at hi]
    exact R.mem (hm i)
  · rw [rot_len] at hi
    have hn : nx (Hu.rot s h) i < h.length := by have := nx_lt (h := Hu.rot s h) (by rw [rot_len]; exact hp) i; rwa [rot_len] at this
    rw [rot_at hi, rot_at hn, hnx i hi]
    exact R.left _ (hm i) q hq
  · rw [rot_len] at hi hj
    have hn : nx (Hu.rot s h) i < h.length := by have := nx_lt (h := Hu.rot s h) (by rw [rot_len]; exact hp) i; rwa [rot_len] at this
    rw [rot_at hi, rot_at hn, rot_at hj, hnx i hi]
    have inj : ∀ x y, x < h.length → y < h.length → (x + s) % h.length = (y + s) % h.length → x = y := fun x y hx hy e => by
      have h1 := Nat.div_add_mod (x + s) h.length
      have h2 := Nat.div_add_mod (y + s) h.length
      rw [e] at h1
      -- the difference is a multiple of the length
      rcases Nat.lt_trichotomy ((x + s) / h.length) ((y + s) / h.length) with hlt | heq | hgt
      · have := Nat.mul_le_mul_left h.length (show (x + s) / h.length + 1 ≤ (y + s) / h.length by omega)
        rw [Nat.mul_add, Nat.mul_one] at this
        omega
      · rw [heq] at h1; omega
      · have := Nat.mul_le_mul_left h.length (show (y + s) / h.length + 1 ≤ (x + s) / h.length by omega)
        rw [Nat.mul_add, Nat.mul_one] at this
        omega
    refine R.strict _ (hm i) _ (hm j) (fun e => h1 (inj j i hj hi e)) fun e => h2 (inj j _ hj hn ?_)
    rw [hnx i hi]; exact e
theorem Ring.toHull {S h : List Pt} (R : Ring S h) : ∃ s, s < h.length ∧ IsHull S (Hu.rot s h) := by
  obtain ⟨s, hs, hl⟩ := R.least
  refine ⟨s, hs, R.rot s, fun q hq => ?_⟩
  rw [rot_at R.pos, Nat.zero_add, Nat.mod_eq_of_lt hs]
  exact hl q hq

/-- What a quarter turn does to a hull. -/
theorem hull_quart (o : Pt) (S : List Pt) : (hullRes (S.map (quart o))).2 = (hullRes S).2 ∧ (hullRes (S.map (quart o))).1.length = (hullRes S).1.length ∧ ∀ x ∈ (hullRes S).1, quart o x ∈ (hullRes (S.map (quart o))).1 := by
  rcases hullRes_spec S with ⟨h1, h2⟩ | ⟨h, h1, H⟩
  · have : hullRes (S.map (quart o)) = ([], false) := by
      refine hullRes_line ?_
      intro a b c ha hb hc
      obtain ⟨a, ka, rfl⟩ := List.mem_map.1 ha
      obtain ⟨b, kb, rfl⟩ := List.mem_map.1 hb
      obtain ⟨c, kc, rfl⟩ := List.mem_map.1 hc
      rw [quart_side]; exact h2 a b c ka kb kc
    rw [this, h1]
    simp
  · obtain ⟨s, hs, H'⟩ := (H.toRing.map (quart_side o)).toHull
    rw [hullRes_eq H', h1]
    refine ⟨rfl, by simp [rot_len], fun x hx => ?_⟩
    obtain ⟨i, hi, rfl⟩ := mem_at hx
    have hi' : i < (h.map (quart o)).length := by simpa using hi
    have hs' : s < h.length := by simpa using hs
    -- where the corner comes to stand
    have hk : ∃ k, k < (h.map (quart o)).length ∧ (k + s) % (h.map (quart o)).length = i := by
      by_cases hsi : s ≤ i
      · exact ⟨i - s, by omega, by rw [Nat.sub_add_cancel hsi]; exact Nat.mod_eq_of_lt hi'⟩
      · refine ⟨i + (h.map (quart o)).length - s, by simp at *; omega, ?_⟩
        rw [Nat.sub_add_cancel (by simp; omega), Nat.add_mod_right]
        exact Nat.mod_eq_of_lt hi'
    obtain ⟨k, hk1, hk2⟩ := hk
    have := at_mem (h := Hu.rot s (h.map (quart o))) (i := k) (by rw [rot_len]; exact hk1)
    rw [rot_at hk1, hk2, at_map hi] at this
    exact this
end Go.Hu
