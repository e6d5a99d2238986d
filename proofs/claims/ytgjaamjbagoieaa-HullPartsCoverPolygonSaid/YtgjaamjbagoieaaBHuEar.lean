import Derived.Test.YtgjaamjbagoieaaBHuLaws
set_option linter.unusedVariables false
set_option linter.unusedSimpArgs false
set_option linter.unnecessarySimpa false
/-
  THE PARTS: cutting ears, as a plain function.
-/
namespace Go.Hu
/-- x lies in the triangle a, b, c. -/
def inT (a b c x : Pt) : Bool := decide (0 ≤ side a b x) && (decide (0 ≤ side b c x) && decide (0 ≤ side c a x))
def clearB (l : List Pt) (i k : Nat) : Bool := decide (k = pv l i) || (decide (k = i) || (decide (k = nx l i) || !inT (at_ l (pv l i)) (at_ l i) (at_ l (nx l i)) (at_ l k)))
def earB (l : List Pt) (i : Nat) : Bool := decide (0 < side (at_ l (pv l i)) (at_ l i) (at_ l (nx l i))) && (List.range l.length).all (clearB l i)
/-- The first number from i on, among k, that p takes. -/
def firstF (p : Nat → Bool) : Nat → Nat → Option Nat
  | 0, _ => none
  | k + 1, i => if p i = true then some i else firstF p k (i + 1)
theorem firstF_some {p : Nat → Bool} : ∀ {k i j : Nat}, firstF p k i = some j → i ≤ j ∧ j < i + k ∧ p j = true := by
  intro k
  induction k with
  | zero => intro i j h; cases h
  | succ k ih =>
    intro i j h
    unfold firstF at h
    split at h
    · rename_i hp; cases h; exact ⟨Nat.le_refl _, by omega, hp⟩
    · obtain ⟨h1, h2, h3⟩ := ih h; exact ⟨by omega, by omega, h3⟩
def ear (l : List Pt) : Option Nat := firstF (earB l) l.length 0
def rest (l : List Pt) (i : Nat) : List Pt := l.take i ++ l.drop (i + 1)
def tri (l : List Pt) (i : Nat) : List Pt := [at_ l (pv l i), at_ l i, at_ l (nx l i)]
def cutE : Nat → List Pt → List (List Pt) → List (List Pt)
  | k + 1, l, out => if 3 < l.length then match ear l with
      | none => []
      | some i => cutE k (rest l i) (out ++ [tri l i])
    else out ++ [l]
  | 0, l, out => out ++ [l]
def decomp (p : List Pt) : List (List Pt) := if convexB p = true then [p] else cutE p.length p []
theorem rest_len {l : List Pt} {i : Nat} (h : i < l.length) : (rest l i).length + 1 = l.length := by simp [rest]; omega
theorem rest_mem {l : List Pt} {i : Nat} : ∀ x ∈ rest l i, x ∈ l := fun x h => by
  rcases List.mem_append.1 h with h | h
  · exact List.mem_of_mem_take h
  · exact List.mem_of_mem_drop h
theorem pv_lt {l : List Pt} (h : 0 < l.length) (i : Nat) : pv l i < l.length := Nat.mod_lt _ h

theorem ear_map {l : List Pt} {f : Pt → Pt} (hf : ∀ a b c, side (f a) (f b) (f c) = side a b c) {i : Nat} (hi : i < l.length) : earB (l.map f) i = earB l i := by
  have hn : (l.map f).length = l.length := by simp
  have hp : pv (l.map f) i = pv l i := by simp [pv]
  have e1 := at_map (h := l) (f := f) (pv_lt (l := l) (by omega) i)
  have e2 := at_map (h := l) (f := f) hi
  have e3 := at_map (h := l) (f := f) (nx_lt (h := l) (by omega) i)
  unfold earB
  rw [hn, hp, nx_map, e1, e2, e3, hf]
  congr 1
  rw [Bool.eq_iff_iff, List.all_eq_true, List.all_eq_true]
  have key : ∀ k ∈ List.range l.length, clearB (l.map f) i k = clearB l i k := fun k hk => by
    unfold clearB inT
    rw [hp, nx_map, e1, e2, e3, at_map (List.mem_range.1 hk), hf, hf, hf]
  exact ⟨fun h k hk => by rw [← key k hk]; exact h k hk, fun h k hk => by rw [key k hk]; exact h k hk⟩
theorem firstF_congr {p q : Nat → Bool} : ∀ {k i : Nat}, (∀ j, i ≤ j → j < i + k → p j = q j) → firstF p k i = firstF q k i := by
  intro k
  induction k with
  | zero => intro i _; rfl
  | succ k ih =>
    intro i h
    unfold firstF
    rw [h i (Nat.le_refl _) (by omega), ih fun j h1 h2 => h j (by omega) (by omega)]
theorem ears_map {l : List Pt} {f : Pt → Pt} (hf : ∀ a b c, side (f a) (f b) (f c) = side a b c) : ear (l.map f) = ear l := by
  unfold ear
  rw [List.length_map]
  exact firstF_congr fun j _ h2 => ear_map hf (by omega)
theorem cutE_map {f : Pt → Pt} (hf : ∀ a b c, side (f a) (f b) (f c) = side a b c) : ∀ (k : Nat) (l : List Pt) (out : List (List Pt)), cutE k (l.map f) (out.map (List.map f)) = (cutE k l out).map (List.map f) := by
  intro k
  induction k with
  | zero => intro l out; simp [cutE]
  | succ k ih =>
    intro l out
    unfold cutE
    rw [List.length_map, ears_map hf]
    split
    · cases he : ear l with
      | none => rfl
      | some i =>
        simp only
        have hi : i < l.length := by have := (firstF_some he).2.1; omega
        rw [← ih]
        congr 1
        · simp [rest]
        · rw [List.map_append]
          congr 1
          unfold tri
          have hp : pv (l.map f) i = pv l i := by simp [pv]
          rw [hp, nx_map, at_map (pv_lt (l := l) (by omega) i), at_map hi, at_map (nx_lt (h := l) (by omega) i)]
          rfl
    · simp
theorem convex_map {l : List Pt} {f : Pt → Pt} (hf : ∀ a b c, side (f a) (f b) (f c) = side a b c) : convexB (l.map f) = convexB l := by
  unfold convexB
  rw [List.length_map]
  congr 1
  rw [Bool.eq_iff_iff, List.all_eq_true, List.all_eq_true]
  have key : ∀ i ∈ List.range l.length, ((List.range l.length).all fun j => decide (j = i) || decide (j = nx (l.map f) i) || decide (0 < side (at_ (l.map f) i) (at_ (l.map f) (nx (l.map f) i)) (at_ (l.map f) j))) = ((List.range l.length).all fun j => decide (j = i) || decide (j = nx l i) || decide (0 < side (at_ l i) (at_ l (nx l i)) (at_ l j))) := fun i hi => by
    have hi' := List.mem_range.1 hi
    rw [nx_map, at_map hi', at_map (nx_lt (h := l) (by omega) i)]
    rw [Bool.eq_iff_iff, List.all_eq_true, List.all_eq_true]
    exact ⟨fun h j hj => by have := h j hj; rwa [at_map (List.mem_range.1 hj), hf] at this, fun h j hj => by rw [at_map (List.mem_range.1 hj), hf]; exact h j hj⟩
  exact ⟨fun h i hi => by have := h i hi; rwa [key i hi] at this, fun h i hi => by rw [key i hi]; exact h i hi⟩
theorem decomp_map {f : Pt → Pt} (hf : ∀ a b c, side (f a) (f b) (f c) = side a b c) (l : List Pt) : decomp (l.map f) = (decomp l).map (List.map f) := by
  unfold decomp
  rw [convex_map hf]
  split
  · simp
  · have := cutE_map hf l.length l []
    simpa using this
end Go.Hu
