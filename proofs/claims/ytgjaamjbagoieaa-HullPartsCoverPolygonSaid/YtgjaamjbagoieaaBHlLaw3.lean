import Derived.Test.YtgjaamjbagoieaaBHlLaw2
set_option linter.unusedVariables false
set_option linter.unusedSimpArgs false
set_option linter.unnecessarySimpa false
/-
  HULL: duplicates and order do not matter; the hull of the hull.
-/
namespace Go.Hl
open Go Go.Am Go.Proofs Go.Hu

theorem canonL7 (l : List Pt) (up : Bool) (hl : l.length < 1000) (h1 : 0 < l.length) (p : List Int) (hp : p.length < 1000) (hw : ∀ x ∈ p, 0 ≤ x ∧ x < 256) : ∀ (r : List Int) (i : Nat) (out : List Pt), p.drop i = r → i ≤ p.length → out.length + r.length < 2000 →
    ∃ out', (∀ x ∈ out', x ∈ out ∨ x ∈ l) ∧ (∀ x ∈ out, x ∈ out') ∧ out'.length = out.length + r.length ∧ Ev (fun n => l04HullCanonicalL7 n ((l, (p, (up, (out, (((i : Nat) : Int), ()))))), ())) ((l, (up, (out', ()))), ()) := by
  intro r
  induction r with
  | nil =>
    intro i out h1 hi ho
    have := gdrop_nil h1
    refine ⟨out, fun x hx => .inl hx, fun x hx => hx, by simp, Ev.of_eq 1 ?_⟩
    simp (disch := omega) only [l04HullCanonicalL7Eq, br_neg]
    exact Ev.pure _
  | cons v r ih =>
    intro i out h2 hi ho
    obtain ⟨g1, g2, g3⟩ := gdrop h2
    obtain ⟨v1, v2⟩ := hw v (List.mem_of_getElem? g1)
    obtain ⟨w, rfl⟩ : ∃ w : Nat, v = (w : Int) := ⟨v.toNat, by omega⟩
    have hm : w % l.length < l.length := Nat.mod_lt _ h1
    have hil : ((i : Nat) : Int) < ((p.length : Nat) : Int) := by omega
    have d2 : (0 : Int) ≤ ((i : Nat) : Int) := by omega
    have h0 : ¬ ((l.length : Nat) : Int) = 0 := by omega
    have ww : IntKind.i64.wrap (w : Int) = (w : Int) := w64 (by omega) (by omega)
    have d3 : (0 : Int) ≤ ((w % l.length : Nat) : Int) := Int.natCast_nonneg _
    have gw := Go.Hu.get_at hm
    simp only [List.length_cons] at ho
    obtain ⟨out', o1, o2, o3, o4⟩ := ih (i + 1) (out ++ [at_ l (w % l.length)]) g2 (by omega) (by simp; omega)
    have hc : (out.length + [at_ l (w % l.length)].length) * 16 ≤ 140737488355328 := by simp only [List.length_cons, List.length_nil]; omega
    refine ⟨out', fun x hx => ?_, fun x hx => o2 x (List.mem_append_left _ hx), by rw [o3]; simp; omega, Ev.of_eq 1 ?_⟩
    · rcases o1 x hx with h | h
      · rcases List.mem_append.1 h with h | h
        · exact .inl h
        · rw [List.mem_singleton.1 h]; exact .inr (at_mem hm)
      · exact .inr h
    · simp only [l04HullCanonicalL7Eq, br_pos hil, br_pos d2, Int.toNat_natCast, g1, Option.bind_some, br_neg h0, ww, tm_nat, br_pos d3, gw, wr1 i (by omega), br_pos hc]
      exact o4
theorem canonL11 (l : List Pt) (up : Bool) (hl : l.length < 1000) : ∀ (k : Nat) (out : List Pt), k ≤ l.length → out.length + k < 3000 →
    Ev (fun n => l04HullCanonicalL11 n ((l, (up, (out, (((k : Nat) : Int) - 1, ())))), ())) ((l, (up, (out ++ (l.take k).reverse, ()))), ()) := by
  intro k
  induction k with
  | zero =>
    intro out hk ho
    refine Ev.of_eq 1 ?_
    have d : ¬ (0 : Int) ≤ ((0 : Nat) : Int) - 1 := by omega
    simp only [l04HullCanonicalL11Eq, br_neg d]
    exact (Ev.pure _).congr (by simp)
  | succ k ih =>
    intro out hk ho
    have e : ((k + 1 : Nat) : Int) - 1 = ((k : Nat) : Int) := by omega
    have d : (0 : Int) ≤ ((k : Nat) : Int) := by omega
    have gk := Go.Hu.get_at (h := l) (i := k) (by omega)
    have hc : (out.length + [at_ l k].length) * 16 ≤ 140737488355328 := by simp only [List.length_cons, List.length_nil]; omega
    refine Ev.of_eq 1 ?_
    simp only [e, l04HullCanonicalL11Eq, br_pos d, Int.toNat_natCast, gk, Option.bind_some, wm1 k (by omega), br_pos hc]
    refine (ih (out ++ [at_ l k]) (by omega) (by simp; omega)).congr ?_
    have : (l.take (k + 1)).reverse = at_ l k :: (l.take k).reverse := by
      rw [List.take_add_one, gk]; simp
    rw [this]; simp

theorem canonicalEv (l : List Pt) (p : List Int) (hl : l.length ≤ 9223372036854775807) (hw : ∀ x ∈ p, 0 ≤ x ∧ x < 256) : Ev (fun n => l04HullCanonical n l p) true := by
  refine Ev.of_eq 1 ?_
  simp only [l04HullCanonicalEq]
  refine Ev.bind headEv (Ev.bind (fitsEv l hl) ?_)
  cases h1 : fitB l with
  | false => exact Ev.pure _
  | true =>
  obtain ⟨a1, a2⟩ := fit_spec h1
  simp only [Bool.not_true, br_f]
  by_cases c1 : (20 : Int) < ((l.length : Nat) : Int)
  · simp only [br_pos c1]; exact Ev.pure _
  by_cases c2 : ((l.length : Nat) : Int) = 0
  · simp only [br_neg c1, br_pos c2]; exact Ev.pure _
  by_cases c3 : (20 : Int) < ((p.length : Nat) : Int)
  · simp only [br_neg c1, br_neg c2, br_pos c3]; exact Ev.pure _
  simp only [br_neg c1, br_neg c2, br_neg c3]
  obtain ⟨out, o1, _, o3, o4⟩ := canonL7 l true (by omega) (by omega) p (by omega) hw p 0 [] rfl (Nat.zero_le _) (by simp; omega)
  have o4' : Ev (fun n => l04HullCanonicalL7 n ((l, (p, (true, ([], (0, ()))))), ())) ((l, (true, (out, ()))), ()) := o4
  refine Ev.bind o4' ?_
  simp only [wm1 l.length (by omega)]
  have h11 := canonL11 l true (by omega) l.length out (Nat.le_refl _) (by rw [o3]; simp; omega)
  rw [List.take_length] at h11
  refine Ev.bind h11 ?_
  have hS : ∀ x, x ∈ l ↔ x ∈ out ++ l.reverse := fun x => by
    rw [List.mem_append, List.mem_reverse]
    exact ⟨fun h => .inr h, fun h => h.elim (fun h => (o1 x h).elim (fun h => by simp at h) id) id⟩
  have hbt : ∀ x ∈ out ++ l.reverse, Bd x := fun x hx => a2 x ((hS x).2 hx)
  refine Ev.bind (hullEv l (by omega) a2) (Ev.bind (hullEv (out ++ l.reverse) (by rw [List.length_append, o3]; simp; omega) hbt) ?_)
  rw [← hullRes_congr hS]
  have hlen : (hullRes l).1.length ≤ l.length := hullRes_len l
  refine Ev.bind (sameEv _ _ (by omega)) ?_
  simp only [decide_true, Bool.not_true, br_f]
  rcases hullRes_spec l with ⟨h, _⟩ | ⟨h, hh, H⟩
  · rw [h]; exact Ev.pure _
  · rw [hh] at hlen ⊢
    simp only at hlen
    simp only [Bool.not_true, br_f]
    have hm : ∀ x ∈ h, x ∈ l := H.sub
    refine Ev.bind (hullEv h (by omega) (fun x hx => a2 x (hm x hx))) ?_
    have HH : IsHull h h := ⟨⟨H.len, fun x hx => hx, fun i hi q hq => H.left i hi q (hm q hq), H.strict⟩, fun q hq => H.first q (hm q hq)⟩
    rw [hullRes_eq HH]
    refine Ev.bind (sameEv _ _ (by omega)) ?_
    simp only [decide_true, br_t]
    exact Ev.pure _
end Go.Hl
