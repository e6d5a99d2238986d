import Derived.Test.YtgjaamjbagoieaaBHuHas
set_option linter.unusedVariables false
set_option linter.unusedSimpArgs false
set_option linter.unnecessarySimpa false
/-
  A point outside of a ring: the crossing number says so.
-/
namespace Go.Hu
theorem hasGo_two {p : List Pt} {x : Pt} : ∀ {k i : Nat} {odd : Bool} {t t' : Nat}, i ≤ t → t < t' → t' < i + k → (∀ j, i ≤ j → j < i + k → edgeB (at_ p j) (at_ p (nx p j)) x = false) → (∀ j, i ≤ j → j < i + k → (togB (at_ p j) (at_ p (nx p j)) x = true ↔ j = t ∨ j = t')) →
    hasGo p x k i odd = if odd = true then 1 else -1 := by
  intro k
  induction k with
  | zero => intro i odd t t' h1 h2 h3; omega
  | succ k ih =>
    intro i odd t t' h1 h2 h3 h4 h5
    unfold hasGo
    rw [h4 i (Nat.le_refl _) (by omega)]
    simp only [Bool.false_eq_true, if_false]
    by_cases hit : i = t
    · have := (h5 i (Nat.le_refl _) (by omega)).2 (.inl hit)
      rw [if_pos this, hasGo_one (t := t') (by omega) (by omega) (fun j a b => h4 j (by omega) (by omega)) (fun j a b => by
        rw [h5 j (by omega) (by omega)]
        omega)]
      cases odd <;> rfl
    · have hn : ¬ togB (at_ p i) (at_ p (nx p i)) x = true := fun h => by
        rcases (h5 i (Nat.le_refl _) (by omega)).1 h with h | h <;> omega
      rw [if_neg hn]
      exact ih (t := t) (t' := t') (by omega) h2 (by omega) (fun j a b => h4 j (by omega) (by omega)) (fun j a b => h5 j (by omega) (by omega))

def isDown (h : List Pt) (Y : Int) (i : Nat) : Prop := (at_ h (nx h i)).2 ≤ Y ∧ Y < (at_ h i).2
theorem nx_inj {h : List Pt} {i j : Nat} (hi : i < h.length) (hj : j < h.length) (e : nx h i = nx h j) : i = j := by
  rw [nx_val hi, nx_val hj] at e
  split at e <;> split at e <;> omega
theorem Ring.down_unique {S h : List Pt} (R : Ring S h) {Y : Int} {i j : Nat} (hi : i < h.length) (hj : j < h.length) (ui : isDown h Y i) (uj : isDown h Y j) : i = j := by
  have e := up_id (at_ h i) (at_ h (nx h i)) (at_ h j) (at_ h (nx h j)) Y
  have s1 := R.left i hi _ (R.mem hj)
  have s2 := R.left i hi _ (R.mem (nx_lt R.pos j))
  have s3 := R.left j hj _ (R.mem hi)
  have s4 := R.left j hj _ (R.mem (nx_lt R.pos i))
  obtain ⟨u1, u2⟩ := ui
  obtain ⟨v1, v2⟩ := uj
  have p1 := Int.mul_nonneg (show 0 ≤ Y - (at_ h (nx h j)).2 by omega) s1
  have p3 := Int.mul_nonneg (show 0 ≤ Y - (at_ h (nx h i)).2 by omega) s3
  have p4 := Int.mul_nonneg (show 0 ≤ (at_ h i).2 - Y by omega) s4
  have e' : (Y - (at_ h (nx h j)).2) * side (at_ h i) (at_ h (nx h i)) (at_ h j) + ((at_ h j).2 - Y) * side (at_ h i) (at_ h (nx h i)) (at_ h (nx h j)) + (Y - (at_ h (nx h i)).2) * side (at_ h j) (at_ h (nx h j)) (at_ h i) + ((at_ h i).2 - Y) * side (at_ h j) (at_ h (nx h j)) (at_ h (nx h i)) = 0 := by grind
  have z : side (at_ h i) (at_ h (nx h i)) (at_ h (nx h j)) = 0 := by
    rcases Int.lt_or_le 0 (side (at_ h i) (at_ h (nx h i)) (at_ h (nx h j))) with k | k
    · have := Int.mul_pos (show 0 < (at_ h j).2 - Y by omega) k
      omega
    · omega
  by_cases h1 : nx h j = i
  · rw [h1] at v1; omega
  · by_cases h2 : nx h j = nx h i
    · exact (nx_inj hj hi h2).symm
    · have := R.strict i hi (nx h j) (nx_lt R.pos j) h1 h2
      omega
theorem up_down {h : List Pt} {Y : Int} : (∃ i, i < h.length ∧ isUp h Y i) ↔ ∃ i, i < h.length ∧ isDown h Y i := by
  constructor
  · rintro ⟨i, hi, u1, u2⟩
    apply Classical.byContradiction
    intro hno
    have hs : ∀ j, j < h.length → Y < (at_ h j).2 → Y < (at_ h (nx h j)).2 := fun j hj h1 => by
      rcases Int.lt_or_le Y (at_ h (nx h j)).2 with k | k
      · exact k
      · exact absurd ⟨j, hj, k, h1⟩ hno
    have := cyc (n := h.length) (P := fun j => Y < (at_ h j).2) (fun j hj hp => hs j hj hp) (nx_lt (h := h) (by omega) i) u2 i hi
    omega
  · rintro ⟨i, hi, u1, u2⟩
    apply Classical.byContradiction
    intro hno
    have hs : ∀ j, j < h.length → (at_ h j).2 ≤ Y → (at_ h (nx h j)).2 ≤ Y := fun j hj h1 => by
      rcases Int.lt_or_le Y (at_ h (nx h j)).2 with k | k
      · exact absurd ⟨j, hj, h1, k⟩ hno
      · exact k
    have := cyc (n := h.length) (P := fun j => (at_ h j).2 ≤ Y) (fun j hj hp => hs j hj hp) (nx_lt (h := h) (by omega) i) u1 i hi
    omega

theorem seg_id1 (a b c d x : Pt) (hs : side a b x = 0) : (b.1 - a.1) * side c d x = (b.1 - x.1) * side c d a + (x.1 - a.1) * side c d b := by
  unfold side at *; grind
theorem seg_id2 (a b c d x : Pt) (hs : side a b x = 0) : (b.2 - a.2) * side c d x = (b.2 - x.2) * side c d a + (x.2 - a.2) * side c d b := by
  unfold side at *; grind
theorem seg_pos {u v w A B C : Int} (e : u * C = v * A + w * B) (hu : 0 < u) (hv : 0 ≤ v) (hw : 0 ≤ w) (hA : 0 ≤ A) (hB : 0 ≤ B) : 0 ≤ C := by
  have p1 := Int.mul_nonneg hv hA
  have p2 := Int.mul_nonneg hw hB
  rcases Int.lt_or_le C 0 with h | h
  · have := Int.mul_neg_of_pos_of_neg hu h
    omega
  · exact h
/-- On a closed segment: on the good side of every line that has both ends on it. -/
theorem edge_left {a b c d x : Pt} (h : edgeB a b x = true) (hne : a ≠ b) (ha : 0 ≤ side c d a) (hb : 0 ≤ side c d b) : 0 ≤ side c d x := by
  unfold edgeB mn mx at h
  simp only [Bool.and_eq_true, decide_eq_true_eq] at h
  obtain ⟨hs, h1, h2, h3, h4⟩ := h
  have e1 := seg_id1 a b c d x hs
  have e2 := seg_id2 a b c d x hs
  rcases Int.lt_or_le a.1 b.1 with k | k
  · exact seg_pos e1 (by omega) (by split at h2 <;> omega) (by split at h1 <;> omega) ha hb
  · rcases Int.lt_or_le b.1 a.1 with k' | k'
    · exact seg_pos (u := a.1 - b.1) (v := x.1 - b.1) (w := a.1 - x.1) (by grind) (by omega) (by split at h1 <;> omega) (by split at h2 <;> omega) ha hb
    · have hx : a.1 = b.1 := by omega
      rcases Int.lt_or_le a.2 b.2 with m | m
      · exact seg_pos e2 (by omega) (by split at h4 <;> omega) (by split at h3 <;> omega) ha hb
      · have hy : b.2 < a.2 := by
          rcases Int.lt_or_le b.2 a.2 with q | q
          · exact q
          · exact absurd (Prod.ext hx (by omega)) hne
        exact seg_pos (u := a.2 - b.2) (v := x.2 - b.2) (w := a.2 - x.2) (by grind) (by omega) (by split at h3 <;> omega) (by split at h4 <;> omega) ha hb

theorem mid_id (a b c d e g x : Pt) : (side a b x * (c.2 - d.2) + side c d x * (b.2 - a.2)) * side e g x = side c d x * ((b.2 - x.2) * side e g a + (x.2 - a.2) * side e g b) + side a b x * ((x.2 - d.2) * side e g c + (c.2 - x.2) * side e g d) := by
  unfold side; grind
theorem gap_id (a b c d x : Pt) : side a b x * (c.2 - d.2) + side c d x * (b.2 - a.2) = (x.2 - d.2) * side a b c + (c.2 - x.2) * side a b d := by
  unfold side; grind
theorem Ring.ne_next {S h : List Pt} (R : Ring S h) {i : Nat} (hi : i < h.length) : at_ h i ≠ at_ h (nx h i) := fun e => by
  have := R.inj hi (nx_lt R.pos i) e
  have hl := R.len
  rw [nx_val hi] at this
  split at this <;> omega

theorem Ring.has_out {S h : List Pt} (R : Ring S h) {x : Pt} {m : Nat} (hm : m < h.length) (hx : side (at_ h m) (at_ h (nx h m)) x < 0) : hasR h x = -1 := by
  have off : ∀ j, j < h.length → edgeB (at_ h j) (at_ h (nx h j)) x = false := fun j hj => by
    rw [Bool.eq_false_iff]
    intro he
    have := edge_left (c := at_ h m) (d := at_ h (nx h m)) he (R.ne_next hj) (R.left m hm _ (R.mem hj)) (R.left m hm _ (R.mem (nx_lt R.pos j)))
    omega
  have ht : ∀ j, togB (at_ h j) (at_ h (nx h j)) x = true ↔ (isUp h x.2 j ∧ 0 < side (at_ h j) (at_ h (nx h j)) x) ∨ (isDown h x.2 j ∧ side (at_ h j) (at_ h (nx h j)) x ≤ 0) := fun j => by
    unfold togB isUp isDown
    simp only [Bool.and_eq_true, Bool.not_eq_true', decide_eq_false_iff_not, decide_eq_true_eq, decide_eq_decide]
    omega
  unfold hasR
  by_cases hup : ∃ i, i < h.length ∧ isUp h x.2 i
  · obtain ⟨d, d1, dd⟩ := up_down.1 hup
    obtain ⟨u, u1, uu⟩ := hup
    have hud : u ≠ d := fun e => by subst e; have := uu.1; have := dd.2; omega
    -- both or neither
    have Hu : 0 < (at_ h (nx h u)).2 - (at_ h u).2 := by have := uu.1; have := uu.2; omega
    have Hd : 0 < (at_ h d).2 - (at_ h (nx h d)).2 := by have := dd.1; have := dd.2; omega
    have both : 0 < side (at_ h u) (at_ h (nx h u)) x ↔ side (at_ h d) (at_ h (nx h d)) x ≤ 0 := by
      constructor
      · intro su
        rcases Int.lt_or_le 0 (side (at_ h d) (at_ h (nx h d)) x) with sd | sd
        · exfalso
          have e := mid_id (at_ h u) (at_ h (nx h u)) (at_ h d) (at_ h (nx h d)) (at_ h m) (at_ h (nx h m)) x
          have l1 := R.left m hm _ (R.mem u1)
          have l2 := R.left m hm _ (R.mem (nx_lt R.pos u))
          have l3 := R.left m hm _ (R.mem d1)
          have l4 := R.left m hm _ (R.mem (nx_lt R.pos d))
          have q1 := Int.mul_nonneg (show 0 ≤ (at_ h (nx h u)).2 - x.2 by have := uu.2; omega) l1
          have q2 := Int.mul_nonneg (show 0 ≤ x.2 - (at_ h u).2 by have := uu.1; omega) l2
          have q3 := Int.mul_nonneg (show 0 ≤ x.2 - (at_ h (nx h d)).2 by have := dd.1; omega) l3
          have q4 := Int.mul_nonneg (show 0 ≤ (at_ h d).2 - x.2 by have := dd.2; omega) l4
          have r1 := Int.mul_nonneg (Int.le_of_lt sd) (Int.add_nonneg q1 q2)
          have r2 := Int.mul_nonneg (Int.le_of_lt su) (Int.add_nonneg q3 q4)
          have r3 := Int.mul_pos su Hd
          have r4 := Int.mul_pos sd Hu
          have := Int.mul_neg_of_pos_of_neg (Int.add_pos r3 r4) hx
          omega
        · exact sd
      · intro sd
        rcases Int.lt_or_le 0 (side (at_ h u) (at_ h (nx h u)) x) with su | su
        · exact su
        · exfalso
          have e := gap_id (at_ h u) (at_ h (nx h u)) (at_ h d) (at_ h (nx h d)) x
          have q3 := Int.mul_nonneg (show 0 ≤ x.2 - (at_ h (nx h d)).2 by have := dd.1; omega) (R.left u u1 _ (R.mem d1))
          have q4 := Int.mul_nonneg (show 0 ≤ (at_ h d).2 - x.2 by have := dd.2; omega) (R.left u u1 _ (R.mem (nx_lt R.pos d)))
          have r4 := Int.mul_nonneg (show 0 ≤ -side (at_ h d) (at_ h (nx h d)) x by omega) (Int.le_of_lt Hu)
          rw [Int.neg_mul] at r4
          have z : side (at_ h u) (at_ h (nx h u)) x = 0 := by
            rcases Int.lt_or_le (side (at_ h u) (at_ h (nx h u)) x) 0 with k | k
            · have := Int.mul_neg_of_neg_of_pos k Hd
              omega
            · omega
          have hon : edgeB (at_ h u) (at_ h (nx h u)) x = true := by
            unfold edgeB
            simp only [Bool.and_eq_true, decide_eq_true_eq]
            have b1 := uu.1
            have b2 := uu.2
            have e1 : ((at_ h (nx h u)).2 - (at_ h u).2) * (x.1 - (at_ h u).1) = (x.2 - (at_ h u).2) * ((at_ h (nx h u)).1 - (at_ h u).1) := by
              have := z; unfold side at this; grind
            have c := in_box Hu (by omega) (by omega) e1
            refine ⟨z, c.1, c.2, ?_, ?_⟩
            · unfold mn; split <;> omega
            · unfold mx; split <;> omega
          rw [off u u1] at hon; cases hon
    by_cases su : 0 < side (at_ h u) (at_ h (nx h u)) x
    · have sd := both.1 su
      have key : ∀ j, 0 ≤ j → j < 0 + h.length → (togB (at_ h j) (at_ h (nx h j)) x = true ↔ j = u ∨ j = d) := fun j _ hj => by
        rw [ht]
        constructor
        · rintro (⟨k, _⟩ | ⟨k, _⟩)
          · exact .inl (R.up_unique (by omega) u1 k uu)
          · exact .inr (R.down_unique (by omega) d1 k dd)
        · rintro (k | k)
          · rw [k]; exact .inl ⟨uu, su⟩
          · rw [k]; exact .inr ⟨dd, sd⟩
      rcases Nat.lt_or_ge u d with o | o
      · rw [hasGo_two (Nat.zero_le u) o (by omega) (fun j _ b => off j (by omega)) key]; rfl
      · rw [hasGo_two (t := d) (t' := u) (Nat.zero_le d) (by omega) (by omega) (fun j _ b => off j (by omega)) (fun j a b => by rw [key j a b]; exact Or.comm)]; rfl
    · have sd : ¬ side (at_ h d) (at_ h (nx h d)) x ≤ 0 := fun k => su (both.2 k)
      rw [hasGo_zero (fun j _ b => off j (by omega)) (fun j _ b => by
        rw [Bool.eq_false_iff, ne_eq, ht]
        rintro (⟨k, k2⟩ | ⟨k, k2⟩)
        · have := R.up_unique (by omega) u1 k uu
          rw [this] at k2; exact su k2
        · have := R.down_unique (by omega) d1 k dd
          rw [this] at k2; exact sd k2)]
      rfl
  · have hdn : ¬ ∃ i, i < h.length ∧ isDown h x.2 i := fun k => hup (up_down.2 k)
    rw [hasGo_zero (fun j _ b => off j (by omega)) (fun j _ b => by
      rw [Bool.eq_false_iff, ne_eq, ht]
      rintro (⟨k, _⟩ | ⟨k, _⟩)
      · exact hup ⟨j, by omega, k⟩
      · exact hdn ⟨j, by omega, k⟩)]
    rfl
end Go.Hu
