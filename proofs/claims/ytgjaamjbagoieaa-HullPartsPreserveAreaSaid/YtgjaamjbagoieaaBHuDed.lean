import Derived.Test.YtgjaamjbagoieaaBHuHull
set_option linter.unusedVariables false
set_option linter.unusedSimpArgs false
set_option linter.unnecessarySimpa false
/-
  PLAIN MATHEMATICS: points in order, without the same point twice.
-/
namespace Go.Hu
/-- x comes ahead of y, or is y. -/
def ptLe (a b : Pt) : Bool := decide (a.1 < b.1) || (decide (a.1 = b.1) && decide (a.2 ≤ b.2))
def sortPts (l : List Pt) : List Pt := l.mergeSort ptLe
theorem ptLe_iff {a b : Pt} : ptLe a b = true ↔ before true a b ∨ a = b := by
  simp only [ptLe, Bool.or_eq_true, Bool.and_eq_true, decide_eq_true_eq, before]
  rw [Prod.ext_iff]
  omega
theorem sort_mem {l : List Pt} {x : Pt} : x ∈ sortPts l ↔ x ∈ l := (List.mergeSort_perm l ptLe).mem_iff
theorem sort_length (l : List Pt) : (sortPts l).length = l.length := (List.mergeSort_perm l ptLe).length_eq
theorem sort_sorted (l : List Pt) : (sortPts l).Pairwise fun a b => ptLe a b = true := by
  refine List.pairwise_mergeSort (fun a b c => ?_) (fun a b => ?_) l
  · rw [ptLe_iff, ptLe_iff, ptLe_iff]
    rintro (h | rfl) (k | rfl)
    · exact .inl (before_trans h k)
    · exact .inl h
    · exact .inl k
    · exact .inr rfl
  · simp only [Bool.or_eq_true, ptLe_iff]
    rcases before_total true a b with h | h | h
    · exact .inl (.inl h)
    · exact .inl (.inr h)
    · exact .inr (.inl h)

/-- Without what was there just before. -/
def ddf (l : List Pt) : List Pt := l.foldl (fun acc x => if acc.getLast? = some x then acc else acc ++ [x]) []
theorem ddf_snoc (l : List Pt) (x : Pt) : ddf (l ++ [x]) = if (ddf l).getLast? = some x then ddf l else ddf l ++ [x] := by unfold ddf; rw [List.foldl_append]; rfl
theorem ddf_last : ∀ (n : Nat) (l : List Pt), l.length = n → (ddf l).getLast? = l.getLast? := by
  intro n
  induction n with
  | zero => intro l h; rw [List.eq_nil_of_length_eq_zero h]; rfl
  | succ n ih =>
    intro l h
    have hne : l ≠ [] := fun e => by subst e; simp at h
    obtain ⟨m, x, rfl⟩ : ∃ m x, l = m ++ [x] := ⟨l.dropLast, l.getLast hne, (List.dropLast_concat_getLast hne).symm⟩
    rw [ddf_snoc]
    split
    · rename_i e; rw [e]; simp
    · simp
theorem ddf_snoc' (l : List Pt) (x : Pt) : ddf (l ++ [x]) = if l.getLast? = some x then ddf l else ddf l ++ [x] := by
  rw [ddf_snoc, ddf_last _ l rfl]
theorem ddf_main : ∀ (n : Nat) (l : List Pt), l.length = n → (∀ x, x ∈ ddf l ↔ x ∈ l) ∧ ((l.Pairwise fun a b => ptLe a b = true) → Asc true (ddf l)) ∧ (ddf l).length ≤ l.length := by
  intro n
  induction n with
  | zero => intro l h; rw [List.eq_nil_of_length_eq_zero h]; simp [ddf, Asc]
  | succ n ih =>
    intro l h
    have hne : l ≠ [] := fun e => by subst e; simp at h
    obtain ⟨m, x, rfl⟩ : ∃ m x, l = m ++ [x] := ⟨l.dropLast, l.getLast hne, (List.dropLast_concat_getLast hne).symm⟩
    obtain ⟨i1, i2, i3⟩ := ih m (by simp at h; omega)
    rw [ddf_snoc']
    split
    · rename_i e
      have hx : x ∈ m := List.mem_of_getLast? e
      refine ⟨fun y => ?_, fun hp => i2 (List.pairwise_append.1 hp).1, by simp; omega⟩
      rw [i1 y, List.mem_append, List.mem_singleton]
      constructor
      · exact .inl
      · rintro (h | rfl)
        · exact h
        · exact hx
    · rename_i e
      refine ⟨fun y => by simp only [List.mem_append, List.mem_singleton, i1 y], fun hp => ?_, by simp; omega⟩
      obtain ⟨p1, p2, p3⟩ := List.pairwise_append.1 hp
      refine List.pairwise_append.2 ⟨i2 p1, List.pairwise_singleton _ _, fun y hy z hz => ?_⟩
      simp only [List.mem_singleton] at hz
      subst hz
      -- y is not behind the last one, and the last one is not z
      cases hm : m.getLast? with
      | none =>
        rw [List.getLast?_eq_none_iff] at hm
        subst hm
        simp [ddf] at hy
      | some w =>
        have hwz : before true w z := by
          rcases ptLe_iff.1 (p3 w (List.mem_of_getLast? hm) z (by simp)) with h | h
          · exact h
          · exact absurd (by rw [hm, h]) e
        obtain ⟨m', rfl⟩ := List.getLast?_eq_some_iff.1 hm
        have hy' := (i1 y).1 hy
        rcases List.mem_append.1 hy' with h1 | h1
        · rcases ptLe_iff.1 ((List.pairwise_append.1 p1).2.2 y h1 w (by simp)) with h2 | h2
          · exact before_trans h2 hwz
          · rw [h2]; exact hwz
        · simp only [List.mem_singleton] at h1
          rw [h1]; exact hwz
theorem ddf_short {l : List Pt} (h : l.length < 2) : ddf l = l := by
  match l with
  | [] => rfl
  | [x] => simp [ddf]

/-- What the program's hull gives. -/
def hullRes (l : List Pt) : List Pt × Bool :=
  let d := ddf (sortPts l)
  if d.length < 3 then ([], false) else if (hullOf d).length < 3 then ([], false) else (hullOf d, true)

theorem hullRes_spec (l : List Pt) : ((hullRes l) = ([], false) ∧ ∀ a b c, a ∈ l → b ∈ l → c ∈ l → side a b c = 0) ∨ (∃ h, hullRes l = (h, true) ∧ IsHull l h) := by
  obtain ⟨d1, d2, d3⟩ := ddf_main _ (sortPts l) rfl
  have ha := d2 (sort_sorted l)
  have hm : ∀ x, x ∈ ddf (sortPts l) ↔ x ∈ l := fun x => (d1 x).trans sort_mem
  unfold hullRes
  simp only
  split
  · rename_i hlt
    left
    refine ⟨rfl, fun a b c ha hb hc => ?_⟩
    rw [← hm] at ha hb hc
    generalize ddf (sortPts l) = d at *
    match d with
    | [] => simp at ha
    | [x] =>
      simp at ha hb
      subst ha; subst hb
      exact side_self1 _ _
    | [x, y] =>
      simp only [List.mem_cons, List.not_mem_nil, or_false] at ha hb hc
      rcases ha with rfl | rfl <;> rcases hb with rfl | rfl <;> rcases hc with rfl | rfl <;> simp [side_self1, side_self2, side_self3]
    | _ :: _ :: _ :: _ => exfalso; simp only [List.length_cons] at hlt; omega
  · rename_i hge
    obtain ⟨m1, m2⟩ := hull_main ha (by omega)
    split
    · rename_i h3
      exact .inl ⟨rfl, fun a b c ha hb hc => m1 h3 a b c ((hm a).2 ha) ((hm b).2 hb) ((hm c).2 hc)⟩
    · rename_i h3
      exact .inr ⟨_, rfl, (m2 (by omega)).congr hm⟩
end Go.Hu
