import Derived.Test.YtlgocmlcniindaaBSwBase
import Derived.Test.YtlgocmlcniindaaBHuLaws
set_option linter.unusedVariables false
set_option linter.unusedSimpArgs false
set_option linter.unnecessarySimpa false
/-
  SWEPT REGIONS: the laws are true.
-/
namespace Go.Sw
open Go Go.Am Go.Proofs Go.Hu

theorem region_len (o : Pt) (a b : List Pt) : (region o a b).1.length ≤ (points o a b).length := by
  unfold region
  split
  · simp
  · split
    · simp
    · exact hullRes_len _
theorem region_mem (o : Pt) (a b : List Pt) : ∀ x ∈ (region o a b).1, x ∈ points o a b := by
  unfold region
  split
  · simp
  · split
    · simp
    · exact hullRes_mem _

/-! ### As the reference -/
theorem matchL6 (u : Bool) (o : Pt) (ho : Mid o) (a b : List Pt) (hn : a.length < 1000000) (ha : ∀ x ∈ a, Mid x) (hb : ∀ x ∈ b, Mid x) : ∀ (ra rb : List Pt) (i : Nat), a.drop i = ra → b.drop i = rb → i ≤ a.length →
    Ev (fun n => l06SweepMatchesReferenceL6 n ((u, ((), (a, (b, (((i : Nat) : Int), ()))))), ((), ((o.1, (o.2, ())), ())))) (.inl ((u, ((), (a, (b, ())))), ((), ((o.1, (o.2, ())), ())))) := by
  intro ra
  induction ra with
  | nil =>
    intro rb i h1 h2 hi
    have := gdrop_nil h1
    refine Ev.of_eq 1 ?_
    simp (disch := omega) only [l06SweepMatchesReferenceL6Eq, br_neg]
    exact Ev.pure _
  | cons x ra ih =>
    intro rb i h1 h2 hi
    obtain ⟨g1, g2, g3⟩ := gdrop h1
    cases rb with
    | nil =>
      have := gdrop_nil h2
      refine Ev.of_eq 1 ?_
      simp (disch := omega) only [l06SweepMatchesReferenceL6Eq, br_pos, br_neg]
      exact Ev.pure _
    | cons y rb' =>
      obtain ⟨k1, k2, k3⟩ := gdrop h2
      have hx := ha x (List.mem_of_getElem? g1)
      have hy := hb y (List.mem_of_getElem? k1)
      refine Ev.of_eq 1 ?_
      simp (disch := omega) only [l06SweepMatchesReferenceL6Eq, br_pos, Int.toNat_natCast, g1, k1, Option.bind_some]
      refine Ev.bind (arcEv ho hx hy) (Ev.bind (routerEv ho hx hy) ?_)
      simp only [beq_pt (outerP o x y) (outerP o x y), decide_true, Bool.not_true, br_f]
      simp (disch := omega) only [wr1]
      exact ih rb' (i + 1) g2 k2 (by omega)
theorem matchesEv (p : Pt) (l m : List Pt) : Ev (fun n => l06SweepMatchesReference n p.1 p.2 l m) true := by
  refine Ev.of_eq 1 ?_
  simp only [l06SweepMatchesReferenceEq]
  have ho := (fit_small p).mid
  have ha : ∀ x ∈ fits l, Mid x := fun x hx => (fits_small x hx).mid
  have hb : ∀ x ∈ fits m, Mid x := fun x hx => (fits_small x hx).mid
  have la := fits_len l
  have lb := fits_len m
  refine Ev.bind headEv (Ev.bind (fitEv p) (Ev.bind (fitsEv l) (Ev.bind (fitsEv m) ?_)))
  refine Ev.bind (matchL6 true (fit p) ho (fits l) (fits m) (by omega) ha hb (fits l) (fits m) 0 rfl rfl (Nat.zero_le _)) ?_
  refine Ev.bind (regionEv (o := fit p) (a := fits l) (b := fits m) ho (by omega) ha hb) (Ev.bind (sweptEv (o := fit p) (a := fits l) (b := fits m) ho (by omega) ha hb) ?_)
  simp only [br_t]
  have hlen := region_len (fit p) (fits l) (fits m)
  have hpl := points_len (o := fit p) (a := fits l) (b := fits m) (by omega) (by omega)
  refine Ev.bind (sameEv _ _ (by omega)) ?_
  simp only [decide_true, br_t]
  exact Ev.pure _

/-! ### The polygons of one length -/
def lawA (l m : List Pt) : List Pt := (fits l).take (sameN l m)
def lawB (l m : List Pt) : List Pt := (fits m).take (sameN l m)
theorem lawA_len (l m : List Pt) : (lawA l m).length = sameN l m := by unfold lawA sameN; rw [List.length_take]; omega
theorem lawB_len (l m : List Pt) : (lawB l m).length = sameN l m := by unfold lawB sameN; rw [List.length_take]; omega
theorem sameN_le (l m : List Pt) : sameN l m ≤ 12 := by unfold sameN; omega
theorem lawA_small {l m : List Pt} : ∀ x ∈ lawA l m, Small x := fun x hx => fits_small x (List.mem_of_mem_take hx)
theorem lawB_small {l m : List Pt} : ∀ x ∈ lawB l m, Small x := fun x hx => fits_small x (List.mem_of_mem_take hx)
theorem region_same {o : Pt} {a b : List Pt} (h : a.length = b.length) (h2 : a.length ≤ 12) : region o a b = hullRes (points o a b) := by
  unfold region
  rw [if_neg (by simpa using h), if_neg (by omega)]

/-! ### The ends -/
theorem endsL14 (u : Bool) (p : List Pt) (S : List Pt) (hn : S.length < 1000000000) (hb : ∀ x ∈ S, Bd x) (hl : ∀ a b c, a ∈ S → b ∈ S → c ∈ S → side a b c = 0) (i k : Nat) (hi : i < S.length) (hk : k < S.length) : ∀ (r j : Nat), j + r = k →
    Ev (fun n => l06SweepEndsL14 n ((u, (p, (S, (((i : Nat) : Int), (((k : Nat) : Int), (((j : Nat) : Int), ())))))), ())) (.inl ((u, (p, (S, (((i : Nat) : Int), (((k : Nat) : Int), ()))))), ())) := by
  intro r
  induction r with
  | zero =>
    intro j hj
    refine Ev.of_eq 1 ?_
    simp (disch := omega) only [l06SweepEndsL14Eq, br_neg]
    exact Ev.pure _
  | succ r ih =>
    intro j hj
    have gi := Go.Hu.get_at hi
    have gk := Go.Hu.get_at hk
    have gj := Go.Hu.get_at (h := S) (i := j) (by omega)
    refine Ev.of_eq 1 ?_
    simp (disch := omega) only [l06SweepEndsL14Eq, br_pos, Int.toNat_natCast, gi, gk, gj, Option.bind_some]
    have mi := at_mem hi
    have mk := at_mem hk
    have mj := at_mem (h := S) (i := j) (by omega)
    refine Ev.bind (rsideEv (hb _ mi) (hb _ mk) (hb _ mj)) ?_
    rw [hl _ _ _ mi mk mj]
    simp (disch := omega) only [decide_true, Bool.not_true, br_f, wr1]
    exact ih (j + 1) (by omega)
theorem endsL11 (u : Bool) (p : List Pt) (S : List Pt) (hn : S.length < 1000000000) (hb : ∀ x ∈ S, Bd x) (hl : ∀ a b c, a ∈ S → b ∈ S → c ∈ S → side a b c = 0) (i : Nat) (hi : i < S.length) : ∀ (r k : Nat), k + r = i →
    Ev (fun n => l06SweepEndsL11 n ((u, (p, (S, (((i : Nat) : Int), (((k : Nat) : Int), ()))))), ())) (.inl ((u, (p, (S, (((i : Nat) : Int), ())))), ())) := by
  intro r
  induction r with
  | zero =>
    intro k hk
    refine Ev.of_eq 1 ?_
    simp (disch := omega) only [l06SweepEndsL11Eq, br_neg]
    exact Ev.pure _
  | succ r ih =>
    intro k hk
    refine Ev.of_eq 1 ?_
    simp (disch := omega) only [l06SweepEndsL11Eq, br_pos]
    refine Ev.bind (endsL14 u p S hn hb hl i k hi (by omega) k 0 (by omega)) ?_
    simp (disch := omega) only [wr1]
    exact ih (k + 1) (by omega)
theorem endsL8 (u : Bool) (p : List Pt) (S : List Pt) (hn : S.length < 1000000000) (hb : ∀ x ∈ S, Bd x) (hl : ∀ a b c, a ∈ S → b ∈ S → c ∈ S → side a b c = 0) : ∀ (r i : Nat), i + r = S.length →
    Ev (fun n => l06SweepEndsL8 n ((u, (p, (S, (((i : Nat) : Int), ())))), ())) (.inl ((u, (p, ())), ())) := by
  intro r
  induction r with
  | zero =>
    intro i hi
    refine Ev.of_eq 1 ?_
    simp (disch := omega) only [l06SweepEndsL8Eq, br_neg]
    exact Ev.pure _
  | succ r ih =>
    intro i hi
    refine Ev.of_eq 1 ?_
    simp (disch := omega) only [l06SweepEndsL8Eq, br_pos]
    refine Ev.bind (endsL11 u p S hn hb hl i (by omega) i 0 (by omega)) ?_
    simp (disch := omega) only [wr1]
    exact ih (i + 1) (by omega)
theorem endsL20 (u : Bool) (p : List Pt) (S : List Pt) (hn : S.length < 1000000000) (hpn : p.length < 1000000000) (hb : ∀ x ∈ S, Bd x) (hp : ∀ x ∈ p, Bd x) (hin : ∀ x ∈ S, inB p x = true) : ∀ (r : List Pt) (i : Nat), S.drop i = r → i ≤ S.length →
    Ev (fun n => l06SweepEndsL20 n ((u, (p, (S, (((i : Nat) : Int), ())))), ())) (.inl ((u, (p, ())), ())) := by
  intro r
  induction r with
  | nil =>
    intro i hd hi
    have := gdrop_nil hd
    refine Ev.of_eq 1 ?_
    simp (disch := omega) only [l06SweepEndsL20Eq, br_neg]
    exact Ev.pure _
  | cons x r ih =>
    intro i hd hi
    obtain ⟨g1, g2, g3⟩ := gdrop hd
    have hx := List.mem_of_getElem? g1
    refine Ev.of_eq 1 ?_
    simp (disch := omega) only [l06SweepEndsL20Eq, br_pos, Int.toNat_natCast, g1, Option.bind_some]
    refine Ev.bind (inEv p hpn hp x (hb x hx)) ?_
    rw [hin x hx]
    simp (disch := omega) only [Bool.not_true, br_f, wr1]
    exact ih (i + 1) g2 (by omega)
theorem endsEv (p : Pt) (l m : List Pt) : Ev (fun n => l06SweepEnds n p.1 p.2 l m) true := by
  refine Ev.of_eq 1 ?_
  simp only [l06SweepEndsEq]
  have ho := (fit_small p).mid
  have ha : ∀ x ∈ lawA l m, Mid x := fun x hx => (lawA_small x hx).mid
  have hb : ∀ x ∈ lawB l m, Mid x := fun x hx => (lawB_small x hx).mid
  have la := lawA_len l m
  have lb := lawB_len l m
  have ln := sameN_le l m
  refine Ev.bind headEv (Ev.bind (fitEv p) (Ev.bind (sameLEv l m) ?_))
  have hpl := points_len (o := fit p) (a := lawA l m) (b := lawB l m) (by omega) (by omega)
  have hpb := points_bd (o := fit p) (a := lawA l m) (b := lawB l m) ho ha hb
  refine Ev.bind (regionEv (a := lawA l m) (b := lawB l m) ho (by omega) ha hb) (Ev.bind (pointsEv (a := lawA l m) (b := lawB l m) ho (by omega) (by omega) ha hb) ?_)
  rw [region_same (by omega) (by omega)]
  rcases hullRes_spec (points (fit p) (lawA l m) (lawB l m)) with ⟨h1, h2⟩ | ⟨h, h1, H⟩
  · rw [h1]
    simp only [Bool.not_false, br_t]
    refine Ev.bind (endsL8 true [] _ (by omega) hpb h2 (points (fit p) (lawA l m) (lawB l m)).length 0 (by omega)) ?_
    simp only [br_t]
    exact Ev.pure _
  · rw [h1]
    simp only [Bool.not_true, br_f]
    have hhl := H.len_le
    have hhb : ∀ x ∈ h, Bd x := fun x hx => hpb x (H.sub x hx)
    refine Ev.bind (endsL20 true h _ (by omega) (by omega) hpb hhb (fun x hx => H.inB hx) _ 0 rfl (Nat.zero_le _)) ?_
    simp only [br_t]
    refine Ev.bind (convexEv h (by omega) hhb) ?_
    rw [H.convex]
    exact Ev.pure _

/-! ### Symmetry -/
theorem symL10 (u i1 i2 : Bool) (o c : Pt) (hc : Small c) (a b p q : List Pt) (hl : a.length = b.length) (hn : a.length < 1000000) (ha : ∀ x ∈ a, Small x) (hb : ∀ x ∈ b, Small x) : ∀ (ra rb : List Pt) (i : Nat) (s t : List Pt), a.drop i = ra → b.drop i = rb → i ≤ a.length → s.length ≤ i → t.length ≤ i →
    Ev (fun n => l06SweepSymmetricL10 n ((u, ((), (a, (b, ((), (p, (i1, (q, (i2, (s, (t, (((i : Nat) : Int), ())))))))))))), ((), ((), ((o.1, (o.2, ())), ((c.1, (c.2, ())), ())))))) ((u, ((), ((), (p, (i1, (q, (i2, (s ++ ra.map (shiftP c), (t ++ rb.map (shiftP c), ()))))))))), ((), ((), ((o.1, (o.2, ())), ((c.1, (c.2, ())), ()))))) := by
  intro ra
  induction ra with
  | nil =>
    intro rb i s t h1 h2 hi hs ht
    have := gdrop_nil h1
    have hrb : rb = [] := by rw [← h2]; exact List.drop_eq_nil_of_le (by omega)
    subst hrb
    refine Ev.of_eq 1 ?_
    simp (disch := omega) only [l06SweepSymmetricL10Eq, br_neg]
    exact (Ev.pure _).congr (by simp)
  | cons x ra ih =>
    intro rb i s t h1 h2 hi hs ht
    obtain ⟨g1, g2, g3⟩ := gdrop h1
    obtain ⟨y, rb', rfl⟩ : ∃ y rb', rb = y :: rb' := by
      cases rb with
      | nil => have := gdrop_nil h2; omega
      | cons y rb' => exact ⟨y, rb', rfl⟩
    obtain ⟨k1, k2, k3⟩ := gdrop h2
    have hx := ha x (List.mem_of_getElem? g1)
    have hy := hb y (List.mem_of_getElem? k1)
    have w1 : IntKind.i64.wrap (x.1 + c.1) = x.1 + c.1 := w64 (by unfold Small at hx hc; omega) (by unfold Small at hx hc; omega)
    have w2 : IntKind.i64.wrap (x.2 + c.2) = x.2 + c.2 := w64 (by unfold Small at hx hc; omega) (by unfold Small at hx hc; omega)
    have w3 : IntKind.i64.wrap (y.1 + c.1) = y.1 + c.1 := w64 (by unfold Small at hy hc; omega) (by unfold Small at hy hc; omega)
    have w4 : IntKind.i64.wrap (y.2 + c.2) = y.2 + c.2 := w64 (by unfold Small at hy hc; omega) (by unfold Small at hy hc; omega)
    refine Ev.of_eq 1 ?_
    simp (disch := omega) only [l06SweepSymmetricL10Eq, br_pos, Int.toNat_natCast, g1, k1, Option.bind_some, w1, w2, w3, w4]
    refine Ev.bind (atEv _ _) ?_
    have hcap1 : (s.length + [(x.1 + c.1, x.2 + c.2)].length) * 16 ≤ 140737488355328 := by simp only [List.length_cons, List.length_nil]; omega
    have hcap2 : (t.length + [(y.1 + c.1, y.2 + c.2)].length) * 16 ≤ 140737488355328 := by simp only [List.length_cons, List.length_nil]; omega
    simp only [br_pos hcap1]
    refine Ev.bind (atEv _ _) ?_
    simp only [br_pos hcap2]
    simp (disch := omega) only [wr1]
    refine (ih rb' (i + 1) (s ++ [shiftP c x]) (t ++ [shiftP c y]) g2 k2 (by omega) (by simp; omega) (by simp; omega)).congr ?_
    simp
theorem symL17 (u i1 i2 i3 : Bool) (c : Pt) (hc : Small c) (p q r : List Pt) (hn : p.length < 1000000) (hp : ∀ x ∈ p, Bd x) : ∀ (rp : List Pt) (i : Nat) (s : List Pt), p.drop i = rp → i ≤ p.length → s.length ≤ i →
    Ev (fun n => l06SweepSymmetricL17 n ((u, ((), (p, (i1, (q, (i2, (r, (i3, (s, (((i : Nat) : Int), ())))))))))), ((), ((), ((), ((c.1, (c.2, ())), ())))))) ((u, (p, (i1, (q, (i2, (r, (i3, (s ++ rp.map (shiftP c), ())))))))), ()) := by
  intro rp
  induction rp with
  | nil =>
    intro i s h1 hi hs
    have := gdrop_nil h1
    refine Ev.of_eq 1 ?_
    simp (disch := omega) only [l06SweepSymmetricL17Eq, br_neg]
    exact (Ev.pure _).congr (by simp)
  | cons x rp ih =>
    intro i s h1 hi hs
    obtain ⟨g1, g2, g3⟩ := gdrop h1
    have hx := hp x (List.mem_of_getElem? g1)
    have w1 : IntKind.i64.wrap (x.1 + c.1) = x.1 + c.1 := w64 (by unfold Bd at hx; unfold Small at hc; omega) (by unfold Bd at hx; unfold Small at hc; omega)
    have w2 : IntKind.i64.wrap (x.2 + c.2) = x.2 + c.2 := w64 (by unfold Bd at hx; unfold Small at hc; omega) (by unfold Bd at hx; unfold Small at hc; omega)
    refine Ev.of_eq 1 ?_
    simp (disch := omega) only [l06SweepSymmetricL17Eq, br_pos, Int.toNat_natCast, g1, Option.bind_some, w1, w2]
    refine Ev.bind (atEv _ _) ?_
    have hcap1 : (s.length + [(x.1 + c.1, x.2 + c.2)].length) * 16 ≤ 140737488355328 := by simp only [List.length_cons, List.length_nil]; omega
    simp only [br_pos hcap1]
    simp (disch := omega) only [wr1]
    refine (ih (i + 1) (s ++ [shiftP c x]) g2 (by omega) (by simp; omega)).congr ?_
    simp
theorem shift_mid {c x : Pt} (hc : Small c) (hx : Small x) : Mid (shiftP c x) := by
  unfold Small at hc hx; unfold Mid shiftP; simp only; omega
theorem symmetricEv (p : Pt) (l m : List Pt) (by' : Pt) : Ev (fun n => l06SweepSymmetric n p.1 p.2 l m by'.1 by'.2) true := by
  refine Ev.of_eq 1 ?_
  simp only [l06SweepSymmetricEq]
  have hos := fit_small p
  have ho := hos.mid
  have hc := fit_small by'
  have ha : ∀ x ∈ lawA l m, Mid x := fun x hx => (lawA_small x hx).mid
  have hb : ∀ x ∈ lawB l m, Mid x := fun x hx => (lawB_small x hx).mid
  have la := lawA_len l m
  have lb := lawB_len l m
  have ln := sameN_le l m
  refine Ev.bind headEv (Ev.bind (fitEv p) (Ev.bind (sameLEv l m) (Ev.bind (fitEv by') ?_)))
  have hpl := points_len (o := fit p) (a := lawA l m) (b := lawB l m) (by omega) (by omega)
  have hpb := points_bd (o := fit p) (a := lawA l m) (b := lawB l m) ho ha hb
  refine Ev.bind (regionEv (a := lawA l m) (b := lawB l m) ho (by omega) ha hb) (Ev.bind (regionEv (a := lawB l m) (b := lawA l m) ho (by omega) hb ha) ?_)
  rw [region_same (by omega) (by omega), region_same (by omega) (by omega), hullRes_congr (points_comm (fit p) (lawB l m) (lawA l m))]
  refine Ev.bind (symL10 true _ _ (fit p) (fit by') hc (lawA l m) (lawB l m) _ _ (by omega) (by omega) lawA_small lawB_small (lawA l m) (lawB l m) 0 [] [] rfl rfl (Nat.zero_le _) (Nat.le_refl _) (Nat.le_refl _)) ?_
  have w1 : IntKind.i64.wrap ((fit p).1 + (fit by').1) = (fit p).1 + (fit by').1 := w64 (by unfold Small at hos hc; omega) (by unfold Small at hos hc; omega)
  have w2 : IntKind.i64.wrap ((fit p).2 + (fit by').2) = (fit p).2 + (fit by').2 := w64 (by unfold Small at hos hc; omega) (by unfold Small at hos hc; omega)
  simp only [w1, w2, List.nil_append]
  refine Ev.bind (atEv _ _) ?_
  have hma : ∀ x ∈ (lawA l m).map (shiftP (fit by')), Mid x := fun x hx => by
    obtain ⟨y, hy, rfl⟩ := List.mem_map.1 hx
    exact shift_mid hc (lawA_small y hy)
  have hmb : ∀ x ∈ (lawB l m).map (shiftP (fit by')), Mid x := fun x hx => by
    obtain ⟨y, hy, rfl⟩ := List.mem_map.1 hx
    exact shift_mid hc (lawB_small y hy)
  have hreg := regionEv (o := shiftP (fit by') (fit p)) (a := (lawA l m).map (shiftP (fit by'))) (b := (lawB l m).map (shiftP (fit by'))) (shift_mid hc hos) (by simp; omega) hma hmb
  rw [region_same (by simp; omega) (by simp; omega), points_map (shiftP (fit by')) (outer_shift (fit by') (fit p)), hullRes_map _ (shift_side _) (shift_before _)] at hreg
  refine Ev.bind hreg ?_
  have hrl := hullRes_len (points (fit p) (lawA l m) (lawB l m))
  have hrm := hullRes_mem (points (fit p) (lawA l m) (lawB l m))
  have hpl2 : (points (fit p) (lawA l m) (lawB l m)).length ≤ 36 := by unfold points; simp; omega
  refine Ev.bind (symL17 true _ _ _ (fit by') hc _ _ _ (by omega) (fun x hx => hpb x (hrm x hx)) _ 0 [] rfl (Nat.zero_le _) (Nat.le_refl _)) ?_
  simp only [br_t, decide_true, List.nil_append]
  refine Ev.bind (sameEv _ _ (by omega)) ?_
  simp only [decide_true, br_t]
  refine Ev.bind (sameEv _ _ (by simp; omega)) ?_
  exact (Ev.pure _).congr (by simp)

/-! ### Fewer corners -/
theorem monoL10 (u : Bool) (o : Pt) (a b p q : List Pt) (hqn : q.length < 1000000000) (hpn : p.length < 1000000000) (hq : ∀ x ∈ q, Bd x) (hp : ∀ x ∈ p, Bd x) (hin : ∀ x ∈ q, inB p x = true) : ∀ (r : List Pt) (i : Nat), q.drop i = r → i ≤ q.length →
    Ev (fun n => l06SweepMonotonicL10 n ((u, ((), (a, (b, (p, (q, (((i : Nat) : Int), ()))))))), ((), ((o.1, (o.2, ())), ())))) (.inl ((u, ((), (a, (b, (p, ()))))), ((), ((o.1, (o.2, ())), ())))) := by
  intro r
  induction r with
  | nil =>
    intro i hd hi
    have := gdrop_nil hd
    refine Ev.of_eq 1 ?_
    simp (disch := omega) only [l06SweepMonotonicL10Eq, br_neg]
    exact Ev.pure _
  | cons x r ih =>
    intro i hd hi
    obtain ⟨g1, g2, g3⟩ := gdrop hd
    have hx := List.mem_of_getElem? g1
    refine Ev.of_eq 1 ?_
    simp (disch := omega) only [l06SweepMonotonicL10Eq, br_pos, Int.toNat_natCast, g1, Option.bind_some]
    refine Ev.bind (inEv p hpn hp x (hq x hx)) ?_
    rw [hin x hx]
    simp (disch := omega) only [Bool.not_true, br_f, wr1]
    exact ih (i + 1) g2 (by omega)
def mostOf (o : Pt) (a b : List Pt) (m : Int) : Int := match a, b with
  | x :: a, y :: b => mostOf o a b (max (max m (far x o)) (far y o))
  | _, _ => m
theorem mostOf_spec (o : Pt) : ∀ (a b : List Pt) (m : Int), a.length = b.length → m ≤ mostOf o a b m ∧ (∀ x ∈ a, far x o ≤ mostOf o a b m) ∧ ∀ x ∈ b, far x o ≤ mostOf o a b m := by
  intro a
  induction a with
  | nil => intro b m h; cases b with | nil => simp [mostOf] | cons => simp at h
  | cons x a ih =>
    intro b m h
    cases b with
    | nil => simp at h
    | cons y b =>
      obtain ⟨i1, i2, i3⟩ := ih b (max (max m (far x o)) (far y o)) (by simpa using h)
      simp only [mostOf]
      refine ⟨by omega, fun z hz => ?_, fun z hz => ?_⟩
      · rcases List.mem_cons.1 hz with rfl | hz
        · omega
        · exact i2 z hz
      · rcases List.mem_cons.1 hz with rfl | hz
        · omega
        · exact i3 z hz
theorem mostOf_le (o : Pt) (M : Int) : ∀ (a b : List Pt) (m : Int), m ≤ M → (∀ x ∈ a, far x o ≤ M) → (∀ x ∈ b, far x o ≤ M) → mostOf o a b m ≤ M := by
  intro a
  induction a with
  | nil => intro b m h _ _; cases b <;> simpa [mostOf] using h
  | cons x a ih =>
    intro b m h ha hb
    cases b with
    | nil => simpa [mostOf] using h
    | cons y b =>
      simp only [mostOf]
      have h1 := ha x (by simp)
      have h2 := hb y (by simp)
      exact ih b _ (by omega) (fun z hz => ha z (List.mem_cons_of_mem _ hz)) fun z hz => hb z (List.mem_cons_of_mem _ hz)
theorem monoL16 (u : Bool) (o : Pt) (ho : Bd o) (a b p : List Pt) (hl : a.length = b.length) (hn : a.length < 1000000) (ha : ∀ x ∈ a, Bd x) (hb : ∀ x ∈ b, Bd x) : ∀ (ra rb : List Pt) (i : Nat) (m : Int), a.drop i = ra → b.drop i = rb → i ≤ a.length →
    Ev (fun n => l06SweepMonotonicL16 n ((u, ((), (a, (b, (p, (m, (((i : Nat) : Int), ()))))))), ((), ((o.1, (o.2, ())), ())))) ((u, ((), (p, (mostOf o ra rb m, ())))), ((), ((o.1, (o.2, ())), ()))) := by
  intro ra
  induction ra with
  | nil =>
    intro rb i m h1 h2 hi
    have := gdrop_nil h1
    have hrb : rb = [] := by rw [← h2]; exact List.drop_eq_nil_of_le (by omega)
    subst hrb
    refine Ev.of_eq 1 ?_
    simp (disch := omega) only [l06SweepMonotonicL16Eq, br_neg]
    exact Ev.pure _
  | cons x ra ih =>
    intro rb i m h1 h2 hi
    obtain ⟨g1, g2, g3⟩ := gdrop h1
    obtain ⟨y, rb', rfl⟩ : ∃ y rb', rb = y :: rb' := by
      cases rb with
      | nil => have := gdrop_nil h2; omega
      | cons y rb' => exact ⟨y, rb', rfl⟩
    obtain ⟨k1, k2, k3⟩ := gdrop h2
    refine Ev.of_eq 1 ?_
    simp (disch := omega) only [l06SweepMonotonicL16Eq, br_pos, Int.toNat_natCast, g1, k1, Option.bind_some]
    refine Ev.bind (farEv (ha x (List.mem_of_getElem? g1)) ho) (Ev.bind (farEv (hb y (List.mem_of_getElem? k1)) ho) ?_)
    simp (disch := omega) only [wr1]
    have e : (if decide ((if decide (m < far x o) = true then far x o else m) < far y o) = true then far y o else (if decide (m < far x o) = true then far x o else m)) = max (max m (far x o)) (far y o) := by
      simp only [decide_eq_true_eq]
      split <;> split <;> omega
    rw [e]
    exact ih rb' (i + 1) _ g2 k2 (by omega)
theorem monoL20 (u : Bool) (o : Pt) (ho : Bd o) (p : List Pt) (hn : p.length < 1000000000) (hp : ∀ x ∈ p, Bd x) (M : Int) (hM : 0 ≤ M ∧ M ≤ 100000000000000000) (hf : ∀ x ∈ p, 64 * far x o ≤ 81 * M ∧ 0 ≤ far x o) : ∀ (r : List Pt) (i : Nat), p.drop i = r → i ≤ p.length →
    Ev (fun n => l06SweepMonotonicL20 n ((u, ((), (p, (M, (((i : Nat) : Int), ()))))), ((), ((o.1, (o.2, ())), ())))) (.inl ((u, ()), ())) := by
  intro r
  induction r with
  | nil =>
    intro i hd hi
    have := gdrop_nil hd
    refine Ev.of_eq 1 ?_
    simp (disch := omega) only [l06SweepMonotonicL20Eq, br_neg]
    exact Ev.pure _
  | cons x r ih =>
    intro i hd hi
    obtain ⟨g1, g2, g3⟩ := gdrop hd
    have hx := List.mem_of_getElem? g1
    obtain ⟨f1, f2⟩ := hf x hx
    refine Ev.of_eq 1 ?_
    simp (disch := omega) only [l06SweepMonotonicL20Eq, br_pos, Int.toNat_natCast, g1, Option.bind_some]
    refine Ev.bind (farEv (hp x hx) ho) ?_
    rw [w64 (n := 81 * M) (by omega) (by omega), w64 (n := 64 * far x o) (by omega) (by omega)]
    simp (disch := omega) only [br_neg, wr1]
    exact ih (i + 1) g2 (by omega)
theorem sq_nn (x : Int) : 0 ≤ x * x := by
  rcases (by omega : 0 ≤ x ∨ x ≤ 0) with h | h
  · exact mul_nn h h
  · have := mul_nn (show 0 ≤ -x by omega) (show 0 ≤ -x by omega)
    have e : -x * -x = x * x := by grind
    omega
theorem far_nn (a b : Pt) : 0 ≤ far a b := by
  have h1 := sq_nn (a.1 - b.1)
  have h2 := sq_nn (a.2 - b.2)
  unfold far; omega
theorem far_small {x o : Pt} (hx : Small x) (ho : Small o) : far x o ≤ 1000000000000000 := by
  unfold Small at hx ho
  have one : ∀ d : Int, -20000000 ≤ d → d ≤ 20000000 → d * d ≤ 400000000000000 := fun d h1 h2 => by
    have := mul_nn (show 0 ≤ 20000000 - d by omega) (show 0 ≤ 20000000 + d by omega)
    have e : (20000000 - d) * (20000000 + d) = 400000000000000 - d * d := by grind
    omega
  have h1 := one (x.1 - o.1) (by omega) (by omega)
  have h2 := one (x.2 - o.2) (by omega) (by omega)
  unfold far; omega
theorem points_far {o : Pt} {a b : List Pt} {M : Int} (hM : 0 ≤ M) (ha : ∀ x ∈ a, far x o ≤ M) (hb : ∀ x ∈ b, far x o ≤ M) : ∀ x ∈ points o a b, 64 * far x o ≤ 81 * M := by
  intro x hx
  unfold points at hx
  rcases List.mem_append.1 hx with hx | hx
  · rcases List.mem_append.1 hx with hx | hx
    · have := ha x hx; omega
    · have := hb x hx; omega
  · obtain ⟨i, hi⟩ := List.mem_iff_getElem?.1 hx
    rw [List.getElem?_zipWith_eq_some] at hi
    obtain ⟨p, q, h1, h2, rfl⟩ := hi
    exact outer_far o p q M (ha p (List.mem_of_getElem? h1)) (hb q (List.mem_of_getElem? h2))
theorem monotonicEv (p : Pt) (l m : List Pt) (k : Int) (hk : 0 ≤ k ∧ k < 256) : Ev (fun n => l06SweepMonotonic n p.1 p.2 l m k) true := by
  refine Ev.of_eq 1 ?_
  simp only [l06SweepMonotonicEq]
  have hos := fit_small p
  have ho := hos.mid
  have ha : ∀ x ∈ lawA l m, Mid x := fun x hx => (lawA_small x hx).mid
  have hb : ∀ x ∈ lawB l m, Mid x := fun x hx => (lawB_small x hx).mid
  have la := lawA_len l m
  have lb := lawB_len l m
  have ln := sameN_le l m
  refine Ev.bind headEv (Ev.bind (fitEv p) (Ev.bind (sameLEv l m) ?_))
  change Ev (fun n => br (decide (IntKind.i64.wrap (((lawA l m).length : Int) + 1) = 0)) none _) true
  have e1 : IntKind.i64.wrap (((lawA l m).length : Int) + 1) = ((sameN l m + 1 : Nat) : Int) := by rw [la, wr1 _ (by omega)]
  obtain ⟨c, hc, hcl⟩ : ∃ c : Nat, (IntKind.i64.wrap k).tmod ((sameN l m + 1 : Nat) : Int) = (c : Int) ∧ c ≤ sameN l m := by
    rw [w64 (n := k) (by omega) (by omega), Int.tmod_eq_emod_of_nonneg hk.1]
    have h1 := Int.emod_nonneg k (show ((sameN l m + 1 : Nat) : Int) ≠ 0 by omega)
    have h2 := Int.emod_lt_of_pos k (show (0 : Int) < ((sameN l m + 1 : Nat) : Int) by omega)
    exact ⟨(k % ((sameN l m + 1 : Nat) : Int)).toNat, by omega, by omega⟩
  have hA : (fits l).take (sameN l m) = lawA l m := rfl
  have hB : (fits m).take (sameN l m) = lawB l m := rfl
  simp only [hA, hB, e1, hc]
  simp (disch := omega) only [br_neg]
  have hpl2 : (points (fit p) (lawA l m) (lawB l m)).length ≤ 36 := by unfold points; simp; omega
  have hpb := points_bd (o := fit p) (a := lawA l m) (b := lawB l m) ho ha hb
  refine Ev.bind (regionEv (a := lawA l m) (b := lawB l m) ho (by omega) ha hb) ?_
  rw [region_same (by omega) (by omega)]
  have c1 : (0 : Int) ≤ 0 ∧ (0 : Int) ≤ ((c : Nat) : Int) ∧ ((c : Nat) : Int) ≤ ((lawA l m).length : Int) := ⟨by omega, by omega, by omega⟩
  have c2 : (0 : Int) ≤ 0 ∧ (0 : Int) ≤ ((c : Nat) : Int) ∧ ((c : Nat) : Int) ≤ ((lawB l m).length : Int) := ⟨by omega, by omega, by omega⟩
  have hz : (0 : Int).toNat = 0 := rfl
  simp only [br_pos c1, br_pos c2, Int.toNat_natCast, hz, List.drop_zero]
  have hta : ((lawA l m).take c).length = c := by rw [List.length_take]; omega
  have htb : ((lawB l m).take c).length = c := by rw [List.length_take]; omega
  have hsub := points_take (fit p) (lawA l m) (lawB l m) c
  have hreg := regionEv (o := fit p) (a := (lawA l m).take c) (b := (lawB l m).take c) ho (by omega) (fun x hx => ha x (List.mem_of_mem_take hx)) (fun x hx => hb x (List.mem_of_mem_take hx))
  rw [region_same (by omega) (by omega)] at hreg
  refine Ev.bind hreg ?_
  -- the rest of the law, for whatever the two hulls are
  obtain ⟨m1, m2, m3⟩ := mostOf_spec (fit p) (lawA l m) (lawB l m) 0 (by omega)
  have mle := mostOf_le (fit p) 1000000000000000 (lawA l m) (lawB l m) 0 (by omega) (fun x hx => far_small (lawA_small x hx) hos) (fun x hx => far_small (lawB_small x hx) hos)
  have hfar := points_far (o := fit p) m1 m2 m3
  have rest : ∀ P Q : List Pt, (∀ x ∈ P, x ∈ points (fit p) (lawA l m) (lawB l m)) → P.length ≤ 36 → Q.length ≤ 36 → (∀ x ∈ Q, Bd x) → (∀ x ∈ Q, inB P x = true) →
      Ev (fun n => (l06SweepMonotonicL10 n ((true, ((), (lawA l m, (lawB l m, (P, (Q, ((0 : Int), ()))))))), ((), (((fit p).1, ((fit p).2, ())), ())))).bind fun l217 => (match l217 with | .inl y218 => (l06SweepMonotonicL16 n ((y218.1.1, ((), (y218.1.2.2.1, (y218.1.2.2.2.1, (y218.1.2.2.2.2.1, ((0 : Int), ((0 : Int), ()))))))), ((), ((y218.2.2.1.1, (y218.2.2.1.2.1, ())), ())))).bind fun l224 => (l06SweepMonotonicL20 n ((l224.1.1, ((), (l224.1.2.2.1, (l224.1.2.2.2.1, ((0 : Int), ()))))), ((), ((l224.2.2.1.1, (l224.2.2.1.2.1, ())), ())))).bind fun l227 => (match l227 with | .inl y228 => some y228.1.1 | .inr y229 => some y229.1.1) | .inr y219 => some y219.1.1)) true := by
    intro P Q hP hPl hQl hQ hin
    have hPb : ∀ x ∈ P, Bd x := fun x hx => hpb x (hP x hx)
    refine Ev.bind (monoL10 true (fit p) (lawA l m) (lawB l m) P Q (by omega) (by omega) hQ hPb hin _ 0 rfl (Nat.zero_le _)) ?_
    refine Ev.bind (monoL16 true (fit p) ho.bd (lawA l m) (lawB l m) P (by omega) (by omega) (fun x hx => (ha x hx).bd) (fun x hx => (hb x hx).bd) _ _ 0 0 rfl rfl (Nat.zero_le _)) ?_
    refine Ev.bind (monoL20 true (fit p) ho.bd P (by omega) hPb _ ⟨m1, by omega⟩ (fun x hx => ⟨hfar x (hP x hx), far_nn _ _⟩) _ 0 rfl (Nat.zero_le _)) ?_
    exact Ev.pure _
  have hl1 := hullRes_len (points (fit p) (lawA l m) (lawB l m))
  have hl2 := hullRes_len (points (fit p) ((lawA l m).take c) ((lawB l m).take c))
  have hl3 : (points (fit p) ((lawA l m).take c) ((lawB l m).take c)).length ≤ 36 := by unfold points; simp; omega
  have hm1 := hullRes_mem (points (fit p) (lawA l m) (lawB l m))
  have hm2 := hullRes_mem (points (fit p) ((lawA l m).take c) ((lawB l m).take c))
  have hQb : ∀ x ∈ (hullRes (points (fit p) ((lawA l m).take c) ((lawB l m).take c))).1, Bd x := fun x hx => hpb x (hsub x (hm2 x hx))
  rcases hullRes_spec (points (fit p) (lawA l m) (lawB l m)) with ⟨h1, h2⟩ | ⟨h, h1, H⟩
  · have h3 := hullRes_line (S := points (fit p) ((lawA l m).take c) ((lawB l m).take c)) fun a b c ha hb hc => h2 a b c (hsub a ha) (hsub b hb) (hsub c hc)
    rw [h1, h3]
    simp only [br_f]
    exact rest [] [] (by simp) (by simp) (by simp) (by simp) (by simp)
  · have hin : ∀ x ∈ (hullRes (points (fit p) ((lawA l m).take c) ((lawB l m).take c))).1, inB h x = true := fun x hx => H.inB (hsub x (hm2 x hx))
    rw [h1] at hl1 hm1 ⊢
    have r := rest h _ hm1 (by simp only at hl1; omega) (by omega) hQb hin
    by_cases hq : (hullRes (points (fit p) ((lawA l m).take c) ((lawB l m).take c))).2 = true
    · simp only [hq, br_t, Bool.not_true, br_f]
      exact r
    · simp only [Bool.not_eq_true] at hq
      simp only [hq, br_f]
      exact r

/-! ### A quarter turn -/
theorem quarL8 (u i1 : Bool) (o : Pt) (ho : Small o) (a b p : List Pt) (hl : a.length = b.length) (hn : a.length < 1000000) (ha : ∀ x ∈ a, Small x) (hb : ∀ x ∈ b, Small x) : ∀ (ra rb : List Pt) (i : Nat) (s t : List Pt), a.drop i = ra → b.drop i = rb → i ≤ a.length → s.length ≤ i → t.length ≤ i →
    Ev (fun n => l06SweepQuarterL8 n ((u, ((), (a, (b, (p, (i1, (s, (t, (((i : Nat) : Int), ()))))))))), ((), ((o.1, (o.2, ())), ())))) ((u, ((), (p, (i1, (s ++ ra.map (quart o), (t ++ rb.map (quart o), ())))))), ((), ((o.1, (o.2, ())), ()))) := by
  intro ra
  induction ra with
  | nil =>
    intro rb i s t h1 h2 hi hs ht
    have := gdrop_nil h1
    have hrb : rb = [] := by rw [← h2]; exact List.drop_eq_nil_of_le (by omega)
    subst hrb
    refine Ev.of_eq 1 ?_
    simp (disch := omega) only [l06SweepQuarterL8Eq, br_neg]
    exact (Ev.pure _).congr (by simp)
  | cons x ra ih =>
    intro rb i s t h1 h2 hi hs ht
    obtain ⟨g1, g2, g3⟩ := gdrop h1
    obtain ⟨y, rb', rfl⟩ : ∃ y rb', rb = y :: rb' := by
      cases rb with
      | nil => have := gdrop_nil h2; omega
      | cons y rb' => exact ⟨y, rb', rfl⟩
    obtain ⟨k1, k2, k3⟩ := gdrop h2
    have hx := ha x (List.mem_of_getElem? g1)
    have hy := hb y (List.mem_of_getElem? k1)
    unfold Small at hx hy ho
    have wq : ∀ z : Pt, ((-10000000 ≤ z.1 ∧ z.1 ≤ 10000000) ∧ (-10000000 ≤ z.2 ∧ z.2 ≤ 10000000)) → IntKind.i64.wrap (o.1 - IntKind.i64.wrap (z.2 - o.2)) = (quart o z).1 ∧ IntKind.i64.wrap (IntKind.i64.wrap (o.2 + z.1) - o.1) = (quart o z).2 := fun z hz => by
      rw [w64 (n := z.2 - o.2) (by omega) (by omega), w64 (n := o.2 + z.1) (by omega) (by omega), w64 (by omega) (by omega), w64 (by omega) (by omega)]
      exact ⟨rfl, rfl⟩
    obtain ⟨w1, w2⟩ := wq x hx
    obtain ⟨w3, w4⟩ := wq y hy
    refine Ev.of_eq 1 ?_
    simp (disch := omega) only [l06SweepQuarterL8Eq, br_pos, Int.toNat_natCast, g1, k1, Option.bind_some, w1, w2, w3, w4]
    refine Ev.bind (atEv _ _) ?_
    have hcap1 : (s.length + [((quart o x).1, (quart o x).2)].length) * 16 ≤ 140737488355328 := by simp only [List.length_cons, List.length_nil]; omega
    have hcap2 : (t.length + [((quart o y).1, (quart o y).2)].length) * 16 ≤ 140737488355328 := by simp only [List.length_cons, List.length_nil]; omega
    simp only [br_pos hcap1]
    refine Ev.bind (atEv _ _) ?_
    simp only [br_pos hcap2]
    simp (disch := omega) only [wr1]
    refine (ih rb' (i + 1) (s ++ [quart o x]) (t ++ [quart o y]) g2 k2 (by omega) (by simp; omega) (by simp; omega)).congr ?_
    simp
theorem quarL21 (u : Bool) (o x : Pt) (p q : List Pt) (hn : q.length < 1000000000) (i0 : Int) : ∀ (r : List Pt) (i : Nat) (met : Bool), q.drop i = r → i ≤ q.length →
    Ev (fun n => l06SweepQuarterL21 n ((u, ((), (p, (q, (i0, ((), (met, (((i : Nat) : Int), ())))))))), ((), ((o.1, (o.2, ())), ((x.1, (x.2, ())), ()))))) ((u, ((), (p, (q, (i0, (met || r.contains x, ())))))), ((), ((o.1, (o.2, ())), ()))) := by
  intro r
  induction r with
  | nil =>
    intro i met hd hi
    have := gdrop_nil hd
    refine Ev.of_eq 1 ?_
    simp (disch := omega) only [l06SweepQuarterL21Eq, br_neg]
    exact (Ev.pure _).congr (by simp)
  | cons y r ih =>
    intro i met hd hi
    obtain ⟨g1, g2, g3⟩ := gdrop hd
    refine Ev.of_eq 1 ?_
    cases met with
    | true =>
      simp (disch := omega) only [l06SweepQuarterL21Eq, br_pos, br_t, wr1]
      refine (ih (i + 1) true g2 (by omega)).congr ?_
      simp
    | false =>
      simp (disch := omega) only [l06SweepQuarterL21Eq, br_pos, br_f, wr1, Int.toNat_natCast, g1, Option.bind_some, beq_pt]
      refine (ih (i + 1) (decide (y = x)) g2 (by omega)).congr ?_
      have : (decide (y = x) || r.contains x) = (false || (y :: r).contains x) := by
        rw [List.contains_cons, Bool.false_or]
        congr 1
        by_cases h : y = x
        · rw [decide_eq_true h, h]; simp
        · rw [decide_eq_false h]; simp [Ne.symm h]
      rw [this]
theorem quarL16 (u : Bool) (o : Pt) (ho : Bd o) (p q : List Pt) (hpn : p.length < 1000000000) (hn : q.length < 1000000000) (hp : ∀ x ∈ p, Bd x) (hin : ∀ x ∈ p, quart o x ∈ q) : ∀ (r : List Pt) (i : Nat), p.drop i = r → i ≤ p.length →
    Ev (fun n => l06SweepQuarterL16 n ((u, ((), (p, (q, (((i : Nat) : Int), ()))))), ((), ((o.1, (o.2, ())), ())))) (.inl ((u, ()), ())) := by
  intro r
  induction r with
  | nil =>
    intro i hd hi
    have := gdrop_nil hd
    refine Ev.of_eq 1 ?_
    simp (disch := omega) only [l06SweepQuarterL16Eq, br_neg]
    exact Ev.pure _
  | cons x r ih =>
    intro i hd hi
    obtain ⟨g1, g2, g3⟩ := gdrop hd
    have hxm := List.mem_of_getElem? g1
    have hx := hp x hxm
    have hm := hin x hxm
    unfold Bd at hx ho
    have w1 : IntKind.i64.wrap (o.1 - IntKind.i64.wrap (x.2 - o.2)) = (quart o x).1 := by
      rw [w64 (n := x.2 - o.2) (by omega) (by omega), w64 (by omega) (by omega)]; rfl
    have w2 : IntKind.i64.wrap (IntKind.i64.wrap (o.2 + x.1) - o.1) = (quart o x).2 := by
      rw [w64 (n := o.2 + x.1) (by omega) (by omega), w64 (by omega) (by omega)]; rfl
    refine Ev.of_eq 1 ?_
    simp (disch := omega) only [l06SweepQuarterL16Eq, br_pos, Int.toNat_natCast, g1, Option.bind_some, w1, w2]
    refine Ev.bind (atEv _ _) ?_
    refine Ev.bind (quarL21 u o (quart o x) p q hn _ q 0 false rfl (Nat.zero_le _)) ?_
    have hc : (false || q.contains (quart o x)) = true := by simp [hm]
    simp (disch := omega) only [hc, Bool.not_true, br_f, wr1]
    exact ih (i + 1) g2 (by omega)
theorem quart_mid {o x : Pt} (ho : Small o) (hx : Small x) : Mid (quart o x) := by
  unfold Small at ho hx; unfold Mid quart; simp only; omega
theorem quarterEv (p : Pt) (l m : List Pt) : Ev (fun n => l06SweepQuarter n p.1 p.2 l m) true := by
  refine Ev.of_eq 1 ?_
  simp only [l06SweepQuarterEq]
  have hos := fit_small p
  have ho := hos.mid
  have ha : ∀ x ∈ lawA l m, Mid x := fun x hx => (lawA_small x hx).mid
  have hb : ∀ x ∈ lawB l m, Mid x := fun x hx => (lawB_small x hx).mid
  have la := lawA_len l m
  have lb := lawB_len l m
  have ln := sameN_le l m
  refine Ev.bind headEv (Ev.bind (fitEv p) (Ev.bind (sameLEv l m) ?_))
  have hpl2 : (points (fit p) (lawA l m) (lawB l m)).length ≤ 36 := by unfold points; simp; omega
  have hpb := points_bd (o := fit p) (a := lawA l m) (b := lawB l m) ho ha hb
  refine Ev.bind (regionEv (a := lawA l m) (b := lawB l m) ho (by omega) ha hb) ?_
  rw [region_same (by omega) (by omega)]
  refine Ev.bind (quarL8 true _ (fit p) hos (lawA l m) (lawB l m) _ (by omega) (by omega) lawA_small lawB_small (lawA l m) (lawB l m) 0 [] [] rfl rfl (Nat.zero_le _) (Nat.le_refl _) (Nat.le_refl _)) ?_
  have hma : ∀ x ∈ (lawA l m).map (quart (fit p)), Mid x := fun x hx => by
    obtain ⟨y, hy, rfl⟩ := List.mem_map.1 hx
    exact quart_mid hos (lawA_small y hy)
  have hmb : ∀ x ∈ (lawB l m).map (quart (fit p)), Mid x := fun x hx => by
    obtain ⟨y, hy, rfl⟩ := List.mem_map.1 hx
    exact quart_mid hos (lawB_small y hy)
  have hreg := regionEv (o := fit p) (a := (lawA l m).map (quart (fit p))) (b := (lawB l m).map (quart (fit p))) ho (by simp; omega) hma hmb
  rw [region_same (by simp; omega) (by simp; omega), points_map (quart (fit p)) (outer_quart (fit p))] at hreg
  simp only [List.nil_append]
  refine Ev.bind hreg ?_
  obtain ⟨q1, q2, q3⟩ := hull_quart (fit p) (points (fit p) (lawA l m) (lawB l m))
  have hrl := hullRes_len (points (fit p) (lawA l m) (lawB l m))
  have hrm := hullRes_mem (points (fit p) (lawA l m) (lawB l m))
  have e1 : (!(decide ((hullRes (points (fit p) (lawA l m) (lawB l m))).2 = (hullRes ((points (fit p) (lawA l m) (lawB l m)).map (quart (fit p)))).2))) = false := by rw [q1]; simp
  have e2 : (!decide (((hullRes (points (fit p) (lawA l m) (lawB l m))).1.length : Int) = ((hullRes ((points (fit p) (lawA l m) (lawB l m)).map (quart (fit p)))).1.length : Int))) = false := by rw [q2]; simp
  simp only [e1, e2, br_f]
  refine Ev.bind (quarL16 true (fit p) ho.bd _ _ (by omega) (by omega) (fun x hx => hpb x (hrm x hx)) q3 _ 0 rfl (Nat.zero_le _)) ?_
  exact Ev.pure _
end Go.Sw
