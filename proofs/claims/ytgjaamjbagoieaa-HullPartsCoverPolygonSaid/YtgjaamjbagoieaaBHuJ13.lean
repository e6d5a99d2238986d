import Derived.Test.YtgjaamjbagoieaaBHuJ12
set_option linter.unusedVariables false
set_option linter.unusedSimpArgs false
set_option linter.unnecessarySimpa false
/-
  The parts of a simple polygon: the program's own cutting; where a point lies.
-/
namespace Go.Hu

theorem pe_get : ∀ (l : List Pt) (i : Nat) (a b : Pt), l[i]? = some a → l[i + 1]? = some b → (pe l)[i]? = some (a, b) := by
  intro l
  induction l with
  | nil => intro i a b h; simp at h
  | cons x l ih =>
    intro i a b h1 h2
    cases l with
    | nil => simp at h2
    | cons y l =>
      cases i with
      | zero => simp at h1 h2; subst h1; subst h2; simp [pe]
      | succ i => simp only [pe, List.getElem?_cons_succ] at h1 h2 ⊢; exact ih i a b h1 h2
theorem pe_len : ∀ (l : List Pt) (a : Pt), (pe (a :: l)).length = l.length := by
  intro l
  induction l with
  | nil => intro a; rfl
  | cons b l ih => intro a; simp only [pe, List.length_cons, ih b]
theorem ed_len (P : List Pt) : (ed P).length = P.length := by
  cases P with
  | nil => rfl
  | cons a l => simp only [ed]; rw [pe_len]; simp
theorem ed_get {P : List Pt} {i : Nat} (h : i < P.length) : (ed P)[i]? = some (at_ P i, at_ P (nx P i)) := by
  cases P with
  | nil => simp at h
  | cons a l =>
    simp only [ed]
    refine pe_get _ _ _ _ ?_ ?_
    · have := get_at h
      rw [show a :: (l ++ [a]) = (a :: l) ++ [a] from rfl, List.getElem?_append_left h]
      exact this
    · by_cases c : i + 1 < (a :: l).length
      · have := get_at c
        rw [show a :: (l ++ [a]) = (a :: l) ++ [a] from rfl, List.getElem?_append_left c, this]
        unfold nx
        rw [Nat.mod_eq_of_lt c]
      · have c' : i + 1 = (a :: l).length := by omega
        rw [show a :: (l ++ [a]) = (a :: l) ++ [a] from rfl, List.getElem?_append_right (by omega)]
        unfold nx
        rw [c', Nat.mod_self, Nat.sub_self]
        rfl
theorem ed_idx {P : List Pt} {a b : Pt} : (a, b) ∈ ed P ↔ ∃ i, i < P.length ∧ a = at_ P i ∧ b = at_ P (nx P i) := by
  constructor
  · intro h
    obtain ⟨i, hi⟩ := List.mem_iff_getElem?.1 h
    have hl : i < P.length := by
      have := (List.getElem?_eq_some_iff.1 hi).1
      rw [ed_len] at this
      exact this
    rw [ed_get hl] at hi
    have := Prod.mk.inj (Option.some.inj hi)
    exact ⟨i, hl, this.1.symm, this.2.symm⟩
  · rintro ⟨i, hi, rfl, rfl⟩
    exact List.mem_of_getElem? (ed_get hi)

/-! ### Where a point lies -/
def hasL (x : Pt) : List (Pt × Pt) → Bool → Int
  | [], odd => if odd = true then 1 else -1
  | e :: l, odd => if edgeB e.1 e.2 x = true then 0 else hasL x l (if togB e.1 e.2 x = true then !odd else odd)
theorem hasGo_eq {p : List Pt} {x : Pt} : ∀ (k i : Nat) (odd : Bool), i + k = p.length → hasGo p x k i odd = hasL x ((ed p).drop i) odd := by
  intro k
  induction k with
  | zero =>
    intro i odd h
    rw [List.drop_eq_nil_of_le (by rw [ed_len]; omega)]
    rfl
  | succ k ih =>
    intro i odd h
    have hl : i < p.length := by omega
    have g := ed_get hl
    have hd : (ed p).drop i = (at_ p i, at_ p (nx p i)) :: (ed p).drop (i + 1) := by
      obtain ⟨h1, h2⟩ := List.getElem?_eq_some_iff.1 g
      rw [List.drop_eq_getElem_cons h1, h2]
    rw [hd]
    unfold hasGo hasL
    rw [ih (i + 1) _ (by omega)]
theorem hasR_eq (p : List Pt) (x : Pt) : hasR p x = hasL x (ed p) false := by
  unfold hasR
  rw [hasGo_eq _ _ _ (by omega)]
  rfl
theorem tog_cr {a b x : Pt} (h : ¬ On a b x) : (togB a b x = true ∧ (cr a b x = 1 ∨ cr a b x = -1)) ∨ (togB a b x = false ∧ cr a b x = 0) := by
  by_cases c1 : a.2 ≤ x.2 <;> by_cases c2 : b.2 ≤ x.2
  · right
    refine ⟨?_, cr_n (by omega)⟩
    unfold togB
    simp [c1, c2]
  · have c3 : a.2 < b.2 := by omega
    rw [cr_u c1 (by omega)]
    by_cases g : 0 < side a b x
    · left; refine ⟨?_, .inl (if_pos g)⟩
      unfold togB; simp [c1, c2, c3, g]
    · right; refine ⟨?_, if_neg g⟩
      unfold togB; simp [c1, c2, c3, g]
  · have c3 : ¬ a.2 < b.2 := by omega
    have nz : side a b x ≠ 0 := fun e => h (on_comm.1 (on_height (by rw [side_swap]; omega) c2 (by omega) (by omega)))
    rw [cr_d c2 (by omega)]
    by_cases g : side a b x < 0
    · left; refine ⟨?_, .inr (if_pos g)⟩
      have : ¬ 0 < side a b x := by omega
      unfold togB; simp [c1, c2, c3, this]
    · right; refine ⟨?_, if_neg g⟩
      have : 0 < side a b x := by omega
      unfold togB; simp [c1, c2, c3, this]
  · right
    refine ⟨?_, cr_n (by omega)⟩
    unfold togB
    simp [c1, c2]
theorem hasL_on {x : Pt} : ∀ {l : List (Pt × Pt)} {odd : Bool}, (∃ e ∈ l, On e.1 e.2 x) → hasL x l odd = 0 := by
  intro l
  induction l with
  | nil => intro odd ⟨e, h, _⟩; simp at h
  | cons f l ih =>
    intro odd ⟨e, h1, h2⟩
    unfold hasL
    split
    · rfl
    · rename_i hn
      rcases List.mem_cons.1 h1 with rfl | h1
      · exact absurd (on_edge.1 h2) hn
      · exact ih ⟨e, h1, h2⟩
theorem hasL_off {x : Pt} : ∀ {l : List (Pt × Pt)} {odd : Bool}, (∀ e ∈ l, ¬ On e.1 e.2 x) → hasL x l odd = if (sm (fun e => cr e.1 e.2 x) l + (if odd = true then 1 else 0)) % 2 = 0 then -1 else 1 := by
  intro l
  induction l with
  | nil => intro odd _; cases odd <;> rfl
  | cons f l ih =>
    intro odd h
    have hf := h f (by simp)
    unfold hasL
    rw [if_neg (fun k => hf (on_edge.2 k)), ih (fun e he => h e (by simp [he]))]
    simp only [sm]
    rcases tog_cr hf with ⟨h1, h2⟩ | ⟨h1, h2⟩
    · rw [h1, if_pos rfl]
      cases odd <;> simp only [Bool.not_true, Bool.not_false, Bool.false_eq_true, if_false, if_true] <;> split <;> split <;> omega
    · rw [h1]
      cases odd <;> simp only [Bool.false_eq_true, if_false, if_true] <;> split <;> split <;> omega
theorem hasR_bd {p : List Pt} {x : Pt} (h : Bd' p x) : hasR p x = 0 := by
  obtain ⟨c, d, h1, h2⟩ := h
  rw [hasR_eq]
  exact hasL_on ⟨(c, d), h1, h2⟩
theorem hasR_off {p : List Pt} {x : Pt} (h : ¬ Bd' p x) : hasR p x = if wind p x % 2 = 0 then -1 else 1 := by
  rw [hasR_eq, hasL_off (fun e he k => h ⟨e.1, e.2, he, k⟩)]
  unfold wind
  simp
theorem SameP.has {P Q : List Pt} (h : SameP P Q) (x : Pt) : hasR P x = hasR Q x := by
  by_cases c : Bd' P x
  · rw [hasR_bd c, hasR_bd ((h.bd x).1 c)]
  · rw [hasR_off c, hasR_off (fun k => c ((h.bd x).2 k)), h.wind]
theorem tri_has {a e b x : Pt} (hD : 0 < side a e b) : (0 ≤ hasR [a, e, b] x ↔ InT a e b x) ∧ (0 < hasR [a, e, b] x ↔ 0 < side a e x ∧ 0 < side e b x ∧ 0 < side b a x) := by
  by_cases c : Bd' [a, e, b] x
  · obtain ⟨h1, h2⟩ := (tri_bd hD).1 c
    rw [hasR_bd c]
    refine ⟨⟨fun _ => h1, fun _ => Int.le_refl _⟩, ⟨fun h => absurd h (by omega), fun h => by omega⟩⟩
  · rw [hasR_off c]
    by_cases hT : InT a e b x
    · rw [tri_in hD hT c, if_neg (by decide)]
      refine ⟨⟨fun _ => hT, fun _ => by omega⟩, ⟨fun _ => ?_, fun _ => by omega⟩⟩
      have n1 : side a e x ≠ 0 := fun h => c ((tri_bd hD).2 ⟨hT, .inl h⟩)
      have n2 : side e b x ≠ 0 := fun h => c ((tri_bd hD).2 ⟨hT, .inr (.inl h)⟩)
      have n3 : side b a x ≠ 0 := fun h => c ((tri_bd hD).2 ⟨hT, .inr (.inr h)⟩)
      obtain ⟨g1, g2, g3⟩ := hT
      omega
    · rw [tri_out hD hT, if_pos (by decide)]
      refine ⟨⟨fun h => absurd h (by omega), fun h => absurd h hT⟩, ⟨fun h => absurd h (by omega), fun h => absurd ⟨by omega, by omega, by omega⟩ hT⟩⟩
/-- How many parts hold the point in their interior. -/
def cnt (x : Pt) : List (List Pt) → Int
  | [] => 0
  | q :: ps => (if 0 < hasR q x then 1 else 0) + cnt x ps
theorem cnt_nn (x : Pt) (ps : List (List Pt)) : 0 ≤ cnt x ps := by
  induction ps with
  | nil => exact Int.le_refl _
  | cons q ps ih => simp only [cnt]; split <;> omega
theorem cnt_zero {x : Pt} {ps : List (List Pt)} (h : ∀ q ∈ ps, hasR q x ≤ 0) : cnt x ps = 0 := by
  induction ps with
  | nil => rfl
  | cons q ps ih =>
    simp only [cnt]
    rw [if_neg (by have := h q (by simp); omega), ih fun q hq => h q (by simp [hq])]
    rfl
theorem Cut.cover {l : List Pt} {ps : List (List Pt)} (h : Cut l ps) (x : Pt) : (0 ≤ hasR l x ↔ ∃ q ∈ ps, 0 ≤ hasR q x) ∧ cnt x ps ≤ 1 ∧ (0 < cnt x ps → 0 < hasR l x) := by
  induction h with
  | tri S =>
    simp only [List.mem_cons, List.not_mem_nil, or_false, exists_eq_left, cnt]
    refine ⟨trivial, by split <;> omega, fun h => ?_⟩
    split at h <;> omega
  | ear H h1 h2 hc ih =>
    rename_i l r e b t L ps
    rw [h1.has]
    rw [h2.has] at ih
    have hD := H.E.turn
    have el := H.E.l
    have er := H.E.r
    obtain ⟨t1, t2⟩ := tri_has (x := x) hD
    obtain ⟨i1, i2, i3⟩ := ih
    have em : ∀ f, f ∈ ed (e :: b :: t :: L) ↔ f = (e, b) ∨ f ∈ pe (b :: t :: L) ∨ f = (lst t L, e) := fun f => mem_ed
    have er' : ∀ f, f ∈ ed (b :: t :: L) ↔ f ∈ pe (b :: t :: L) ∨ f = (lst t L, b) := fun f => by rw [HeadEar.ed_rest (e := e)]; simp
    simp only [List.mem_cons, exists_eq_or_imp, cnt]
    have hsight : InT (lst t L) e b x → ¬ Bd' (e :: b :: t :: L) x → wind (e :: b :: t :: L) x = 1 := fun hT hn => H.E.sight H.S hT fun c d h1 h2 => hn ⟨c, d, h1, h2⟩
    have hge : InT (lst t L) e b x → 0 ≤ hasR (e :: b :: t :: L) x := fun hT => by
      by_cases c : Bd' (e :: b :: t :: L) x
      · rw [hasR_bd c]; exact Int.le_refl _
      · rw [hasR_off c, hsight hT c]; decide
    by_cases hT : InT (lst t L) e b x
    · refine ⟨⟨fun _ => .inl (t1.2 hT), fun _ => hge hT⟩, ?_⟩
      by_cases hd : 0 < side b (lst t L) x
      · obtain ⟨o1, o2⟩ := H.out hT hd
        have rz : hasR (b :: t :: L) x = -1 := by
          rw [hasR_off (fun ⟨c, d, g1, g2⟩ => o1 c d g1 g2), o2]; rfl
        have cz : cnt x ps = 0 := cnt_zero fun q hq => by
          rcases Int.lt_or_le 0 (hasR q x) with g | g
          · have := i1.2 ⟨q, hq, by omega⟩
            omega
          · exact g
        rw [cz]
        refine ⟨by split <;> omega, fun hh => ?_⟩
        have hin : 0 < hasR [lst t L, e, b] x := by split at hh <;> omega
        obtain ⟨y1, y2, _⟩ := t2.1 hin
        have nb : ¬ Bd' (e :: b :: t :: L) x := fun ⟨c, d, g1, g2⟩ => by
          rcases (em _).1 g1 with g | g | g
          · obtain ⟨rfl, rfl⟩ := Prod.mk.inj g
            have := g2.1; omega
          · exact o1 c d ((er' _).2 (.inl g)) g2
          · obtain ⟨rfl, rfl⟩ := Prod.mk.inj g
            have := g2.1; omega
        rw [hasR_off nb, hsight hT nb]
        decide
      · have hz : side b (lst t L) x = 0 := by have := hT.2.2; omega
        have onab : On (lst t L) b x := on_comm.1 (inT_on3 hD hT hz)
        have rz : hasR (b :: t :: L) x = 0 := hasR_bd ⟨_, _, (er' _).2 (.inr rfl), onab⟩
        have tz : ¬ 0 < hasR [lst t L, e, b] x := fun h => by have := (t2.1 h).2.2; omega
        rw [if_neg tz]
        have : ¬ 0 < cnt x ps := fun h => by have := i3 h; omega
        have := cnt_nn x ps
        exact ⟨by omega, fun h => by omega⟩
    · have tn : ¬ 0 ≤ hasR [lst t L, e, b] x := fun h => hT (t1.1 h)
      have tz : ¬ 0 < hasR [lst t L, e, b] x := fun h => tn (by omega)
      have ia : InT (lst t L) e b (lst t L) := ⟨by rw [side_self2]; omega, by rw [← side_cyc]; omega, by rw [side_self3]; omega⟩
      have ib : InT (lst t L) e b b := ⟨by omega, by rw [side_self3]; omega, by rw [side_self2]; omega⟩
      have ie := inT_mid hD
      have bdeq : Bd' (e :: b :: t :: L) x ↔ Bd' (b :: t :: L) x := by
        constructor
        · rintro ⟨c, d, g1, g2⟩
          rcases (em _).1 g1 with g | g | g
          · obtain ⟨rfl, rfl⟩ := Prod.mk.inj g
            exact absurd (inT_conv ie ib g2) hT
          · exact ⟨c, d, (er' _).2 (.inl g), g2⟩
          · obtain ⟨rfl, rfl⟩ := Prod.mk.inj g
            exact absurd (inT_conv ia ie g2) hT
        · rintro ⟨c, d, g1, g2⟩
          rcases (er' _).1 g1 with g | g
          · exact ⟨c, d, (em _).2 (.inr (.inl g)), g2⟩
          · obtain ⟨rfl, rfl⟩ := Prod.mk.inj g
            exact absurd (inT_conv ia ib g2) hT
      have heq : hasR (e :: b :: t :: L) x = hasR (b :: t :: L) x := by
        by_cases c : Bd' (e :: b :: t :: L) x
        · rw [hasR_bd c, hasR_bd (bdeq.1 c)]
        · rw [hasR_off c, hasR_off (fun k => c (bdeq.2 k)), wind_cut, tri_out hD hT, Int.zero_add]
      rw [heq, if_neg tz]
      refine ⟨⟨fun h => .inr (i1.1 h), fun h => i1.2 (h.resolve_left tn)⟩, by omega, fun h => i3 (by omega)⟩

/-! ### The program's own cutting -/
theorem next_uniq {P : List Pt} (S : Pos P) {e b b' : Pt} (h1 : (e, b) ∈ ed P) (h2 : (e, b') ∈ ed P) : b = b' := by
  obtain ⟨w, t, L, R, r1, _⟩ := to_head S (ed_mem h1).1
  rw [ed_next R.toSimple ((r1 _).1 h1), ed_next R.toSimple ((r1 _).1 h2)]
theorem prev_uniq {P : List Pt} (S : Pos P) {e a a' : Pt} (h1 : (a, e) ∈ ed P) (h2 : (a', e) ∈ ed P) : a = a' := by
  obtain ⟨w, t, L, R, r1, _⟩ := to_head S (ed_mem h1).2
  rw [ed_prev R.toSimple ((r1 _).1 h1), ed_prev R.toSimple ((r1 _).1 h2)]
theorem inT_iff {a b c x : Pt} : inT a b c x = true ↔ InT a b c x := by unfold inT InT; simp [Bool.and_eq_true, and_assoc]
theorem ear_idx {P : List Pt} {i : Nat} (hi : i < P.length) : (at_ P (pv P i), at_ P i) ∈ ed P ∧ (at_ P i, at_ P (nx P i)) ∈ ed P :=
  ⟨ed_idx.2 ⟨pv P i, pv_lt (by omega) i, rfl, by rw [nx_pv hi]⟩, ed_idx.2 ⟨i, hi, rfl, rfl⟩⟩
theorem ear_of {P : List Pt} {i : Nat} (hi : i < P.length) (h : earB P i = true) : Ear P (at_ P (pv P i)) (at_ P i) (at_ P (nx P i)) := by
  unfold earB at h
  simp only [Bool.and_eq_true, decide_eq_true_eq, List.all_eq_true, List.mem_range] at h
  obtain ⟨h1, h2⟩ := h
  obtain ⟨e1, e2⟩ := ear_idx hi
  refine ⟨e1, e2, h1, fun x hx hT => ?_⟩
  obtain ⟨k, hk, rfl⟩ := mem_at hx
  have := h2 k hk
  unfold clearB at this
  simp only [Bool.or_eq_true, decide_eq_true_eq, Bool.not_eq_true'] at this
  rcases this with g | g | g | g
  · exact .inl (by rw [g])
  · exact .inr (.inl (by rw [g]))
  · exact .inr (.inr (by rw [g]))
  · rw [inT_iff.2 hT] at g; cases g
theorem of_ear {P : List Pt} (S : Pos P) {a e b : Pt} (E : Ear P a e b) : ∃ i, i < P.length ∧ earB P i = true := by
  obtain ⟨i, hi, he⟩ := mem_at (ed_mem E.l).2
  obtain ⟨e1, e2⟩ := ear_idx hi
  rw [he] at e1 e2
  have ha := prev_uniq S E.l e1
  have hb := next_uniq S E.r e2
  refine ⟨i, hi, ?_⟩
  unfold earB
  simp only [Bool.and_eq_true, decide_eq_true_eq, List.all_eq_true, List.mem_range]
  rw [he, ← ha, ← hb]
  refine ⟨E.turn, fun k hk => ?_⟩
  unfold clearB
  simp only [Bool.or_eq_true, decide_eq_true_eq, Bool.not_eq_true']
  rw [he, ← ha, ← hb]
  by_cases hT : InT a e b (at_ P k)
  · rcases E.clear _ (at_mem hk) hT with g | g | g
    · exact .inl (at_inj S.nd hk (pv_lt (by omega) i) (by rw [g, ha]))
    · exact .inr (.inl (at_inj S.nd hk hi (by rw [g, he])))
    · exact .inr (.inr (.inl (at_inj S.nd hk (nx_lt (by omega) i) (by rw [g, hb]))))
  · refine .inr (.inr (.inr ?_))
    rw [Bool.eq_false_iff]
    exact fun h => hT (inT_iff.1 h)
theorem firstF_ex {p : Nat → Bool} : ∀ {k i j : Nat}, i ≤ j → j < i + k → p j = true → ∃ m, firstF p k i = some m := by
  intro k
  induction k with
  | zero => intro i j h1 h2; omega
  | succ k ih =>
    intro i j h1 h2 h3
    unfold firstF
    split
    · exact ⟨i, rfl⟩
    · rename_i hn
      have : i ≠ j := fun e => hn (e ▸ h3)
      exact ih (j := j) (by omega) (by omega) h3
theorem cutE_cut : ∀ (k : Nat) (l : List Pt) (out : List (List Pt)), Pos l → l.length ≤ k + 3 → ∃ ps, Cut l ps ∧ cutE k l out = out ++ ps := by
  have three : ∀ l : List Pt, Pos l → l.length = 3 → Cut l [l] := fun l S h => by
    match l, S, h with
    | [x, y, z], S, _ => exact Cut.tri S
  intro k
  induction k with
  | zero =>
    intro l out S h
    have := S.len
    exact ⟨[l], three l S (by omega), rfl⟩
  | succ k ih =>
    intro l out S h
    have hl := S.len
    by_cases c : 3 < l.length
    · obtain ⟨a, e, b, E, _⟩ := ear_exists l.length l rfl (by omega) S _ _ (ear_idx (P := l) (i := 0) (by omega)).2
      obtain ⟨j, hj, hj2⟩ := of_ear S E
      obtain ⟨i, hi⟩ := firstF_ex (p := earB l) (k := l.length) (i := 0) (j := j) (by omega) (by omega) hj2
      obtain ⟨_, i2, i3⟩ := firstF_some hi
      have hi' : i < l.length := by omega
      have E' := ear_of hi' i3
      have hsplit : l = l.take i ++ at_ l i :: l.drop (i + 1) := by
        have g := get_at hi'
        obtain ⟨h1, h2⟩ := List.getElem?_eq_some_iff.1 g
        rw [← h2, ← List.drop_eq_getElem_cons h1, List.take_append_drop]
      have sp : SameP l (at_ l i :: (l.drop (i + 1) ++ l.take i)) := by
        have := sameP_rot (l.take i) (at_ l i :: l.drop (i + 1))
        rw [← hsplit] at this
        exact this
      have R : Pos (at_ l i :: (l.drop (i + 1) ++ l.take i)) := by
        have := S
        rw [hsplit] at this
        exact this.rot
      have sr : SameP (rest l i) (l.drop (i + 1) ++ l.take i) := sameP_rot _ _
      have hlen : (l.drop (i + 1) ++ l.take i).length + 1 = l.length := by simp; omega
      have hrl := rest_len hi'
      have rr : ∀ C : List Pt, C = l.drop (i + 1) ++ l.take i → Pos C → Pos (rest l i) := fun C hC hP => by subst hC; exact hP.rot
      generalize hC : l.drop (i + 1) ++ l.take i = C at *
      match C, hlen with
      | [], h0 => simp at h0; omega
      | [_], h0 => simp at h0; omega
      | [_, _], h0 => simp at h0; omega
      | b :: t :: y :: L, _ =>
        have hb := ed_next R.toSimple ((sp.ed _).1 E'.r)
        have ha := ed_prev R.toSimple ((sp.ed _).1 E'.l)
        rw [lst_cons_eq] at ha
        have HE : HeadEar (at_ l i) b t (y :: L) := ⟨R, ⟨mem_ed.2 (.inr (.inr rfl)), mem_ed.2 (.inl rfl), by rw [← ha, ← hb]; exact E'.turn, fun x hx hT => by
          rw [← ha, ← hb] at hT ⊢
          exact E'.clear x ((sp.mem x).2 hx) hT⟩, by simp⟩
        obtain ⟨ps, p1, p2⟩ := ih (rest l i) (out ++ [tri l i]) (rr _ rfl HE.pos) (by omega)
        refine ⟨[lst t (y :: L), at_ l i, b] :: ps, Cut.ear HE sp sr p1, ?_⟩
        unfold cutE
        rw [if_pos c]
        unfold ear
        rw [hi]
        simp only
        rw [p2]
        unfold tri
        rw [ha, hb, List.append_assoc]
        rfl
    · refine ⟨[l], three l S (by omega), ?_⟩
      unfold cutE
      rw [if_neg c]
end Go.Hu
