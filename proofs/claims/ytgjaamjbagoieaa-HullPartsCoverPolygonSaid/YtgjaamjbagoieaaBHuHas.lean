import Derived.Test.YtgjaamjbagoieaaBHuEar
set_option linter.unusedVariables false
set_option linter.unusedSimpArgs false
set_option linter.unnecessarySimpa false
/-
  Where a point lies, by the crossing number.
-/
namespace Go.Hu
def mn (a b : Int) : Int := if b < a then b else a
def mx (a b : Int) : Int := if a < b then b else a
def edgeB (a b p : Pt) : Bool := decide (side a b p = 0) && (decide (mn a.1 b.1 ≤ p.1) && (decide (p.1 ≤ mx a.1 b.1) && (decide (mn a.2 b.2 ≤ p.2) && decide (p.2 ≤ mx a.2 b.2))))
def togB (a b x : Pt) : Bool := !(decide (decide (a.2 ≤ x.2) = decide (b.2 ≤ x.2))) && decide (decide (a.2 < b.2) = decide (0 < side a b x))
def hasGo (p : List Pt) (x : Pt) : Nat → Nat → Bool → Int
  | 0, _, odd => if odd = true then 1 else -1
  | k + 1, i, odd => if edgeB (at_ p i) (at_ p (nx p i)) x = true then 0 else hasGo p x k (i + 1) (if togB (at_ p i) (at_ p (nx p i)) x = true then !odd else odd)
def hasR (p : List Pt) (x : Pt) : Int := hasGo p x p.length 0 false

theorem hasGo_on {p : List Pt} {x : Pt} : ∀ {k i : Nat} {odd : Bool} {j : Nat}, i ≤ j → j < i + k → edgeB (at_ p j) (at_ p (nx p j)) x = true → hasGo p x k i odd = 0 := by
  intro k
  induction k with
  | zero => intro i odd j h1 h2; omega
  | succ k ih =>
    intro i odd j h1 h2 h3
    unfold hasGo
    split
    · rfl
    · rename_i hn
      have : i ≠ j := fun e => by subst e; exact hn h3
      exact ih (j := j) (by omega) (by omega) h3
theorem hasGo_zero {p : List Pt} {x : Pt} : ∀ {k i : Nat} {odd : Bool}, (∀ j, i ≤ j → j < i + k → edgeB (at_ p j) (at_ p (nx p j)) x = false) → (∀ j, i ≤ j → j < i + k → togB (at_ p j) (at_ p (nx p j)) x = false) → hasGo p x k i odd = if odd = true then 1 else -1 := by
  intro k
  induction k with
  | zero => intro i odd _ _; rfl
  | succ k ih =>
    intro i odd h1 h2
    unfold hasGo
    rw [h1 i (Nat.le_refl _) (by omega), h2 i (Nat.le_refl _) (by omega)]
    simp only [Bool.false_eq_true, if_false]
    exact ih (fun j a b => h1 j (by omega) (by omega)) (fun j a b => h2 j (by omega) (by omega))
theorem hasGo_one {p : List Pt} {x : Pt} : ∀ {k i : Nat} {odd : Bool} {t : Nat}, i ≤ t → t < i + k → (∀ j, i ≤ j → j < i + k → edgeB (at_ p j) (at_ p (nx p j)) x = false) → (∀ j, i ≤ j → j < i + k → (togB (at_ p j) (at_ p (nx p j)) x = true ↔ j = t)) →
    hasGo p x k i odd = if odd = true then -1 else 1 := by
  intro k
  induction k with
  | zero => intro i odd t h1 h2; omega
  | succ k ih =>
    intro i odd t h1 h2 h3 h4
    unfold hasGo
    rw [h3 i (Nat.le_refl _) (by omega)]
    simp only [Bool.false_eq_true, if_false]
    by_cases hit : i = t
    · have := (h4 i (Nat.le_refl _) (by omega)).2 hit
      rw [if_pos this, hasGo_zero (fun j a b => h3 j (by omega) (by omega)) (fun j a b => by
        rw [Bool.eq_false_iff]
        intro h
        have := (h4 j (by omega) (by omega)).1 h
        omega)]
      cases odd <;> rfl
    · have hn : ¬ togB (at_ p i) (at_ p (nx p i)) x = true := fun h => hit ((h4 i (Nat.le_refl _) (by omega)).1 h)
      rw [if_neg hn]
      exact ih (t := t) (by omega) (by omega) (fun j a b => h3 j (by omega) (by omega)) (fun j a b => h4 j (by omega) (by omega))

theorem between {A A' u v : Int} (h1 : 0 < A) (h2 : 0 ≤ A') (h3 : A' ≤ A) (e : A * u = A' * v) : (0 ≤ v → 0 ≤ u ∧ u ≤ v) ∧ (v ≤ 0 → v ≤ u ∧ u ≤ 0) := by
  have key : ∀ {u v : Int}, A * u = A' * v → 0 ≤ v → 0 ≤ u ∧ u ≤ v := fun {u v} e hv => by
    have p1 : 0 ≤ A * u := by rw [e]; exact Int.mul_nonneg h2 hv
    have p2 : A * u ≤ A * v := by rw [e]; exact Int.mul_le_mul_of_nonneg_right h3 hv
    refine ⟨?_, Int.le_of_mul_le_mul_left p2 h1⟩
    rcases Int.lt_or_le u 0 with h | h
    · have := Int.mul_neg_of_pos_of_neg h1 h
      omega
    · exact h
  refine ⟨key e, fun hv => ?_⟩
  have := key (u := -u) (v := -v) (by rw [Int.mul_neg, Int.mul_neg, e]) (by omega)
  omega
theorem in_box {A A' a b x : Int} (h1 : 0 < A) (h2 : 0 ≤ A') (h3 : A' ≤ A) (e : A * (x - a) = A' * (b - a)) : mn a b ≤ x ∧ x ≤ mx a b := by
  obtain ⟨k1, k2⟩ := between h1 h2 h3 e
  unfold mn mx
  by_cases h : a ≤ b
  · have := k1 (by omega)
    constructor <;> split <;> omega
  · have := k2 (by omega)
    constructor <;> split <;> omega
theorem Ring.on {S h : List Pt} (R : Ring S h) {i : Nat} (hi : i < h.length) {x : Pt} (hx : x ∈ S) (hs : side (at_ h i) (at_ h (nx h i)) x = 0) : edgeB (at_ h i) (at_ h (nx h i)) x = true := by
  obtain ⟨A, A', a1, a2, a3, a4, a5⟩ := R.seg hi hx hs
  have b1 := in_box a1 a2 a3 a4
  have b2 := in_box a1 a2 a3 a5
  unfold edgeB
  simp only [Bool.and_eq_true, decide_eq_true_eq]
  exact ⟨hs, b1.1, b1.2, b2.1, b2.2⟩
theorem edge_self (a b : Pt) : edgeB a b a = true := by
  unfold edgeB mn mx
  simp only [Bool.and_eq_true, decide_eq_true_eq]
  refine ⟨by unfold side; grind, ?_, ?_, ?_, ?_⟩ <;> split <;> omega

/-! ### One crossing upwards -/
theorem up_id (a b c d : Pt) (Y : Int) : (d.2 - Y) * side a b c + (Y - c.2) * side a b d + (b.2 - Y) * side c d a + (Y - a.2) * side c d b = 0 := by
  unfold side; grind
theorem up_zero {a b c d : Pt} {Y : Int} (h1 : a.2 ≤ Y) (h2 : Y < b.2) (h3 : c.2 ≤ Y) (h4 : Y < d.2) (s1 : 0 ≤ side a b c) (s2 : 0 ≤ side a b d) (s3 : 0 ≤ side c d a) (s4 : 0 ≤ side c d b) : side a b c = 0 := by
  have e := up_id a b c d Y
  have p2 := Int.mul_nonneg (show 0 ≤ Y - c.2 by omega) s2
  have p3 := Int.mul_nonneg (show 0 ≤ b.2 - Y by omega) s3
  have p4 := Int.mul_nonneg (show 0 ≤ Y - a.2 by omega) s4
  rcases Int.lt_or_le 0 (side a b c) with h | h
  · have := Int.mul_pos (show 0 < d.2 - Y by omega) h
    omega
  · omega
def isUp (h : List Pt) (Y : Int) (i : Nat) : Prop := (at_ h i).2 ≤ Y ∧ Y < (at_ h (nx h i)).2
theorem Ring.up_unique {S h : List Pt} (R : Ring S h) {Y : Int} {i j : Nat} (hi : i < h.length) (hj : j < h.length) (ui : isUp h Y i) (uj : isUp h Y j) : i = j := by
  have z := up_zero ui.1 ui.2 uj.1 uj.2 (R.left i hi _ (R.mem hj)) (R.left i hi _ (R.mem (nx_lt R.pos j))) (R.left j hj _ (R.mem hi)) (R.left j hj _ (R.mem (nx_lt R.pos i)))
  by_cases h1 : j = i
  · exact h1.symm
  · by_cases h2 : j = nx h i
    · have a := ui.2
      have b := uj.1
      rw [h2] at b
      omega
    · have := R.strict i hi j hj h1 h2
      omega

theorem top_exists (f : Nat → Int) : ∀ n : Nat, 0 < n → ∃ t, t < n ∧ ∀ i, i < n → f i ≤ f t := by
  intro n
  induction n with
  | zero => intro h; omega
  | succ n ih =>
    intro _
    rcases Nat.eq_zero_or_pos n with h0 | h0
    · subst h0; exact ⟨0, by omega, fun i hi => by have : i = 0 := by omega
                                                   rw [this]; exact Int.le_refl _⟩
    · obtain ⟨t, h1, h2⟩ := ih h0
      rcases Int.lt_or_le (f t) (f n) with h | h
      · exact ⟨n, by omega, fun i hi => by
          by_cases hin : i = n
          · rw [hin]; exact Int.le_refl _
          · have := h2 i (by omega); omega⟩
      · exact ⟨t, by omega, fun i hi => by
          by_cases hin : i = n
          · rw [hin]; exact h
          · exact h2 i (by omega)⟩
theorem turn_id (p t n x : Pt) : (t.2 - n.2) * side p t x + (t.2 - p.2) * side t n x = -((x.2 - t.2) * side p t n) := by
  unfold side; grind
/-- Nothing strictly left of both edges at a top corner lies as high as it. -/
theorem top_low {p t n x : Pt} (hp : p.2 ≤ t.2) (hn : n.2 ≤ t.2) (h1 : 0 < side p t x) (h2 : 0 < side t n x) (ht : 0 < side p t n) : x.2 < t.2 := by
  rcases Int.lt_or_le x.2 t.2 with h | h
  · exact h
  · exfalso
    have e := turn_id p t n x
    have q := Int.mul_nonneg (show 0 ≤ x.2 - t.2 by omega) (Int.le_of_lt ht)
    have q1 := Int.mul_nonneg (show 0 ≤ t.2 - n.2 by omega) (Int.le_of_lt h1)
    have q2 := Int.mul_nonneg (show 0 ≤ t.2 - p.2 by omega) (Int.le_of_lt h2)
    have z1 : t.2 - n.2 = 0 := by
      rcases Int.lt_or_le 0 (t.2 - n.2) with k | k
      · have := Int.mul_pos k h1; omega
      · omega
    have z2 : t.2 - p.2 = 0 := by
      rcases Int.lt_or_le 0 (t.2 - p.2) with k | k
      · have := Int.mul_pos k h2; omega
      · omega
    have : side p t n = 0 := by
      unfold side
      rw [show n.2 - p.2 = 0 by omega, show t.2 - p.2 = 0 by omega]
      simp
    omega
theorem bot_high {p t n x : Pt} (hp : t.2 ≤ p.2) (hn : t.2 ≤ n.2) (h1 : 0 < side p t x) (h2 : 0 < side t n x) (ht : 0 < side p t n) : t.2 < x.2 := by
  rcases Int.lt_or_le t.2 x.2 with h | h
  · exact h
  · exfalso
    have e := turn_id p t n x
    have q := Int.mul_nonneg (show 0 ≤ t.2 - x.2 by omega) (Int.le_of_lt ht)
    have q1 := Int.mul_nonneg (show 0 ≤ n.2 - t.2 by omega) (Int.le_of_lt h1)
    have q2 := Int.mul_nonneg (show 0 ≤ p.2 - t.2 by omega) (Int.le_of_lt h2)
    have e' : (n.2 - t.2) * side p t x + (p.2 - t.2) * side t n x = -((t.2 - x.2) * side p t n) := by grind
    have z1 : n.2 - t.2 = 0 := by
      rcases Int.lt_or_le 0 (n.2 - t.2) with k | k
      · have := Int.mul_pos k h1; omega
      · omega
    have z2 : p.2 - t.2 = 0 := by
      rcases Int.lt_or_le 0 (p.2 - t.2) with k | k
      · have := Int.mul_pos k h2; omega
      · omega
    have : side p t n = 0 := by
      unfold side
      rw [show n.2 - p.2 = 0 by omega, show t.2 - p.2 = 0 by omega]
      simp
    omega
theorem cyc {n : Nat} {P : Nat → Prop} (hs : ∀ i, i < n → P i → P ((i + 1) % n)) {i : Nat} (hi : i < n) (hp : P i) : ∀ j, j < n → P j := by
  have key : ∀ k, P ((i + k) % n) := by
    intro k
    induction k with
    | zero => rwa [Nat.add_zero, Nat.mod_eq_of_lt hi]
    | succ k ih =>
      have := hs _ (Nat.mod_lt _ (by omega)) ih
      rwa [Nat.mod_add_mod] at this
  intro j hj
  have := key (n - i + j)
  rwa [show i + (n - i + j) = j + n by omega, Nat.add_mod_right, Nat.mod_eq_of_lt hj] at this
theorem pv_lt' {h : List Pt} (hl : 0 < h.length) (i : Nat) : pv h i < h.length := Nat.mod_lt _ hl
/-- A point that is strictly left of every edge is passed by one edge on the way up. -/
theorem Ring.up_exists {S h : List Pt} (R : Ring S h) {x : Pt} (hx : ∀ i, i < h.length → 0 < side (at_ h i) (at_ h (nx h i)) x) : ∃ t, t < h.length ∧ isUp h x.2 t := by
  apply Classical.byContradiction
  intro hno
  have hno' : ∀ i, i < h.length → (at_ h i).2 ≤ x.2 → (at_ h (nx h i)).2 ≤ x.2 := fun i hi h1 => by
    rcases Int.lt_or_le x.2 (at_ h (nx h i)).2 with h2 | h2
    · exact absurd ⟨i, hi, h1, h2⟩ hno
    · exact h2
  by_cases hex : ∃ i, i < h.length ∧ (at_ h i).2 ≤ x.2
  · obtain ⟨i, hi, h1⟩ := hex
    have all := cyc (n := h.length) (P := fun i => (at_ h i).2 ≤ x.2) (fun i hi hp => hno' i hi hp) hi h1
    obtain ⟨t, t1, t2⟩ := top_exists (fun i => (at_ h i).2) h.length R.pos
    have hp := pv_lt' R.pos t
    have s1 := hx (pv h t) hp
    rw [nx_pv t1] at s1
    have := top_low (t2 _ hp) (t2 _ (nx_lt R.pos t)) s1 (hx t t1) (R.turn t1)
    have h3 : (at_ h t).2 ≤ x.2 := all t t1
    omega
  · have all : ∀ i, i < h.length → x.2 < (at_ h i).2 := fun i hi => by
      rcases Int.lt_or_le x.2 (at_ h i).2 with h2 | h2
      · exact h2
      · exact absurd ⟨i, hi, h2⟩ hex
    obtain ⟨t, t1, t2⟩ := top_exists (fun i => -(at_ h i).2) h.length R.pos
    have hp := pv_lt' R.pos t
    have s1 := hx (pv h t) hp
    rw [nx_pv t1] at s1
    have a1 : -(at_ h (pv h t)).2 ≤ -(at_ h t).2 := t2 _ hp
    have a2 : -(at_ h (nx h t)).2 ≤ -(at_ h t).2 := t2 _ (nx_lt R.pos t)
    have := bot_high (by omega) (by omega) s1 (hx t t1) (R.turn t1)
    have := all t t1
    omega
theorem Ring.has_in {S h : List Pt} (R : Ring S h) {x : Pt} (hx : x ∈ S) : 0 ≤ hasR h x ∧ ((∃ i, i < h.length ∧ edgeB (at_ h i) (at_ h (nx h i)) x = true) → hasR h x = 0) := by
  refine ⟨?_, fun ⟨i, hi, h1⟩ => hasGo_on (Nat.zero_le i) (by omega) h1⟩
  by_cases hon : ∃ i, i < h.length ∧ edgeB (at_ h i) (at_ h (nx h i)) x = true
  · obtain ⟨i, hi, h1⟩ := hon
    unfold hasR
    rw [hasGo_on (Nat.zero_le i) (by omega) h1]
    exact Int.le_refl _
  · have off : ∀ j, j < h.length → edgeB (at_ h j) (at_ h (nx h j)) x = false := fun j hj => by
      rw [Bool.eq_false_iff]; exact fun h => hon ⟨j, hj, h⟩
    have pos : ∀ j, j < h.length → 0 < side (at_ h j) (at_ h (nx h j)) x := fun j hj => by
      have h0 := R.left j hj x hx
      rcases Int.lt_or_le 0 (side (at_ h j) (at_ h (nx h j)) x) with k | k
      · exact k
      · have := R.on hj hx (by omega)
        rw [off j hj] at this; cases this
    obtain ⟨t, t1, t2⟩ := R.up_exists pos
    unfold hasR
    rw [hasGo_one (Nat.zero_le t) (by omega) (fun j _ b => off j (by omega)) (fun j _ b => ?_)]
    · simp
    · have hj : j < h.length := by omega
      have hp := pos j hj
      have ht : togB (at_ h j) (at_ h (nx h j)) x = true ↔ isUp h x.2 j := by
        unfold togB isUp
        rw [decide_eq_true hp]
        simp only [Bool.and_eq_true, Bool.not_eq_true', decide_eq_false_iff_not, decide_eq_true_eq, decide_eq_decide]
        omega
      rw [ht]
      exact ⟨fun u => R.up_unique hj t1 u t2, fun e => e ▸ t2⟩
end Go.Hu
