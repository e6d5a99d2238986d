import Derived.Test.YtgjaamjbagoieaaBHlHas
import Derived.Test.YtgjaamjbagoieaaBHuAdd
set_option linter.unusedVariables false
set_option linter.unusedSimpArgs false
set_option linter.unnecessarySimpa false
/-
  HULL: one point more.
-/
namespace Go.Hl
open Go Go.Am Go.Proofs Go.Hu

theorem addL15 (up too : Bool) (h g : List Pt) (hh : h.length < 1000000) (hg : g.length < 1000000) (x : Pt) (hq : ∀ q ∈ g, q ≠ x → q ∈ h) : ∀ (r : List Pt) (i : Nat), g.drop i = r → i ≤ g.length →
    Ev (fun n => l04HullAddPointL15 n (((), (up, (h, (g, (too, (((i : Nat) : Int), ())))))), ((x.1, (x.2, ())), ()))) (.inl (((), (up, (g, (too, ())))), ((x.1, (x.2, ())), ()))) := by
  intro r
  induction r with
  | nil =>
    intro i h1 hi
    have := gdrop_nil h1
    refine Ev.of_eq 1 ?_
    simp (disch := omega) only [l04HullAddPointL15Eq, br_neg]
    exact Ev.pure _
  | cons y r ih =>
    intro i h1 hi
    obtain ⟨g1, g2, g3⟩ := gdrop h1
    have hy := List.mem_of_getElem? g1
    have hil : ((i : Nat) : Int) < ((g.length : Nat) : Int) := by omega
    have d1 : (0 : Int) ≤ ((i : Nat) : Int) := by omega
    have cont := ih (i + 1) g2 (by omega)
    refine Ev.of_eq 1 ?_
    simp only [l04HullAddPointL15Eq, br_pos hil, br_pos d1, Int.toNat_natCast, g1, Option.bind_some, wr1 i (by omega), beq_pt y x]
    refine Ev.bind (memEv h hh y) ?_
    by_cases c : y ∈ h
    · rw [decide_eq_true c]
      simp only [Bool.not_true, br_f]
      exact cont
    · have hyx : y = x := Classical.byContradiction fun k => c (hq y hy k)
      rw [decide_eq_false c]
      simp only [Bool.not_false, br_t, nbr_pos hyx]
      exact cont

theorem addEv (l : List Pt) (x : Pt) (hl : l.length * 16 ≤ 140737488351232) : Ev (fun n => l04HullAddPoint n l x.1 x.2) true := by
  refine Ev.of_eq 1 ?_
  have z1 : (([] : List Pt).length + l.length) * 16 ≤ 140737488355328 := by simp only [List.length_nil]; omega
  have z2 : (([] ++ l : List Pt).length + [(x.1, x.2)].length) * 16 ≤ 140737488355328 := by simp only [List.nil_append, List.length_cons, List.length_nil]; omega
  simp only [l04HullAddPointEq, br_pos z1, br_pos z2]
  have zl : ([] ++ l ++ [(x.1, x.2)] : List Pt) = l ++ [x] := by simp
  simp only [zl]
  refine Ev.bind headEv (Ev.bind (fitsEv (l ++ [x]) (by simp; omega)) ?_)
  cases h1 : fitB (l ++ [x]) with
  | false => exact Ev.pure _
  | true =>
  obtain ⟨a1, a2⟩ := fit_spec h1
  have b1 : l.length < 40 := by rw [List.length_append, List.length_singleton] at a1; omega
  have b2 : ∀ y ∈ l, Bd y := fun y hy => a2 y (List.mem_append_left _ hy)
  have bx : Bd x := a2 x (by simp)
  simp only [Bool.not_true, br_f]
  refine Ev.bind (hullEv l (by omega) b2) (Ev.bind (hullEv (l ++ [x]) (by omega) a2) ?_)
  have hlen : (hullRes l).1.length ≤ l.length := hullRes_len l
  have glen : (hullRes (l ++ [x])).1.length ≤ (l ++ [x]).length := hullRes_len _
  rcases hullRes_spec l with ⟨h, hz⟩ | ⟨h, hh, H⟩
  · rw [h]
    simp only [Bool.not_false, br_t]
    rcases hullRes_spec (l ++ [x]) with ⟨g, _⟩ | ⟨g, gg, G⟩
    · rw [g]; exact Ev.pure _
    · rw [gg] at glen ⊢
      simp only at glen
      simp only [Bool.not_true, br_f]
      refine Ev.bind (memEv g (by omega) x) ?_
      have : x ∈ g := Classical.byContradiction fun hn => by
        have hgl : ∀ q ∈ g, q ∈ l := fun q hq => by
          rcases List.mem_append.1 (G.sub q hq) with k | k
          · exact k
          · rw [List.mem_singleton.1 k] at hq; exact absurd hq hn
        have GG : Ring g g := ⟨G.len, fun x hx => hx, fun i hi q hq => G.left i hi q (G.sub q hq), G.strict⟩
        exact GG.not_line fun a b c ha hb hc => hz a b c (hgl a ha) (hgl b hb) (hgl c hc)
      rw [decide_eq_true this]
      exact Ev.pure _
  · rw [hh] at hlen ⊢
    simp only at hlen
    simp only [Bool.not_true, br_f]
    have hhb : ∀ y ∈ h, Bd y := fun y hy => b2 y (H.sub y hy)
    refine Ev.bind (hasEv h (by omega) hhb x bx) ?_
    by_cases hin : ∀ i, i < h.length → 0 ≤ side (at_ h i) (at_ h (nx h i)) x
    · have RX : Ring (x :: h) h := ⟨H.len, fun y hy => List.mem_cons_of_mem _ hy, fun i hi q hq => by
        rcases List.mem_cons.1 hq with k | k
        · rw [k]; exact hin i hi
        · exact H.left i hi q (H.sub q k), H.strict⟩
      have hge := (RX.has_in (x := x) (by simp)).1
      simp only [br_pos hge]
      rw [hullRes_eq (H.add_in hin)]
      refine Ev.bind (sameEv _ _ (by show h.length < 1000000000; omega)) ?_
      simp only [decide_true, br_t]
      exact Ev.pure _
    · have hex : ∃ m, m < h.length ∧ side (at_ h m) (at_ h (nx h m)) x < 0 := Classical.byContradiction fun hn => hin fun i hi => by
        rcases Int.lt_or_le (side (at_ h i) (at_ h (nx h i)) x) 0 with k | k
        · exact absurd ⟨i, hi, k⟩ hn
        · exact k
      obtain ⟨m, m1, m2⟩ := hex
      have hout : hasR h x = -1 := H.toRing.has_out m1 m2
      have c1 : ¬ (0 : Int) ≤ hasR h x := by omega
      simp only [br_neg c1]
      rcases hullRes_spec (l ++ [x]) with ⟨_, gz⟩ | ⟨g, gg, G⟩
      · exfalso
        exact H.toRing.not_line fun a b c ha hb hc => gz a b c (List.mem_append_left _ ha) (List.mem_append_left _ hb) (List.mem_append_left _ hc)
      · rw [gg] at glen ⊢
        simp only at glen
        obtain ⟨k1, k2⟩ := H.add_out G m1 m2
        refine Ev.bind (addL15 true true h g (by omega) (by omega) x k2 g 0 rfl (Nat.zero_le _)) ?_
        simp only [br_t]
        refine Ev.bind (memEv g (by omega) x) ?_
        rw [decide_eq_true k1]
        exact Ev.pure _
end Go.Hl
