import Derived.Test.YtigkjkmikicnnaaDoorBFrLaw
set_option linter.unusedVariables false
set_option linter.unusedSimpArgs false
/-
  FRAMING: more laws, with enough fuel.
-/
namespace Go.Fr
open Go Go.Am Go.Proofs
variable {m : Int}

/-! ### Streams -/
theorem rest_suffix : ∀ (l : List Int), ∃ u, l = u ++ rest l := by
  intro l
  by_cases h : (126 : Int) ∈ l
  · obtain ⟨u, v, rfl, hv⟩ := mem_split h
    exact ⟨u, by rw [rest_eq u v hv]⟩
  · exact ⟨l, by rw [rest_free h, List.append_nil]⟩
theorem ok_right {a b : List Int} (h : okBs (a ++ b) = true) : okBs b = true := by
  unfold okBs at *
  rw [List.all_append, Bool.and_eq_true] at h
  exact h.2
theorem ok_left {a b : List Int} (h : okBs (a ++ b) = true) : okBs a = true := by
  unfold okBs at *
  rw [List.all_append, Bool.and_eq_true] at h
  exact h.1
theorem ok_rest {l : List Int} (h : okBs l = true) : okBs (rest l) = true ∧ (rest l).length ≤ l.length := by
  obtain ⟨u, hu⟩ := rest_suffix l
  refine ⟨ok_right (a := u) (hu ▸ h), ?_⟩
  have := congrArg List.length hu
  rw [List.length_append] at this
  omega
theorem ok_take {l : List Int} (h : okBs l = true) (i : Nat) : okBs (l.take i) = true := by
  unfold okBs at h ⊢
  rw [List.all_eq_true] at h ⊢
  exact fun x hx => h x (List.mem_of_mem_take hx)
theorem msgs_valid {b : List Int} : ∀ a ∈ msgs b, valid a = true := by
  intro a h
  obtain ⟨p, _, hp⟩ := List.mem_filterMap.1 h
  exact (piece_some hp).1
theorem valid_nums {a : Msg} (h : valid a = true) : a.2.2.length ≤ 140737488355328 := by
  have := (valid_iff.1 h).2.2.2.2.1
  omega
theorem msgs_length (b : List Int) : (msgs b).length ≤ (splitB 126 b).length - 2 := by
  unfold msgs inner
  refine Nat.le_trans (List.length_filterMap_le _ _) ?_
  rw [List.length_dropLast, List.length_drop]
  omega
theorem msgs_le (b : List Int) : (msgs b).length ≤ b.length := by
  have h1 := msgs_length b
  have h2 := (splitB_len (y := 126) (l := b)).1
  omega

theorem streaming (b : List Int) (at0 to0 : Int) (ha : 0 ≤ at0 ∧ at0 < 65536) (ht : 0 ≤ to0 ∧ to0 < 65536) (hok : okBs b = true) : Ev (fun n => l32FramingStreaming m n b at0 to0) true := by
  refine Ev.of_eq 1 ?_
  simp only [l32FramingStreamingEq]
  refine Ev.bind headEv ?_
  by_cases hg : 400 < (b.length : Int)
  · simp only [br_pos hg]; exact Ev.pure _
  · simp only [br_neg hg]
    have w0 : IntKind.i64.wrap at0 = at0 := w64 (by omega) (by omega)
    have w1 : IntKind.i64.wrap to0 = to0 := w64 (by omega) (by omega)
    have w2 : IntKind.i64.wrap ((b.length : Int) + 1) = (b.length : Int) + 1 := w64 (by omega) (by omega)
    simp only [w0, w1, w2]
    obtain ⟨i, hi, hil⟩ : ∃ i : Nat, at0.tmod ((b.length : Int) + 1) = i ∧ i ≤ b.length := by
      rw [Int.tmod_eq_emod_of_nonneg ha.1]
      have h1 := Int.emod_nonneg at0 (b := (b.length : Int) + 1) (by omega)
      have h2 := Int.emod_lt_of_pos at0 (b := (b.length : Int) + 1) (by omega)
      exact ⟨(at0 % ((b.length : Int) + 1)).toNat, by omega, by omega⟩
    simp only [hi]
    have w3 : IntKind.i64.wrap ((b.length : Int) - (i : Int)) = (b.length : Int) - i := w64 (by omega) (by omega)
    have w4 : IntKind.i64.wrap ((b.length : Int) - (i : Int) + 1) = (b.length : Int) - i + 1 := w64 (by omega) (by omega)
    simp only [w3, w4]
    obtain ⟨j, hj, hjl⟩ : ∃ j : Nat, to0.tmod ((b.length : Int) - (i : Int) + 1) = j ∧ i + j ≤ b.length := by
      rw [Int.tmod_eq_emod_of_nonneg ht.1]
      have h1 := Int.emod_nonneg to0 (b := (b.length : Int) - i + 1) (by omega)
      have h2 := Int.emod_lt_of_pos to0 (b := (b.length : Int) - i + 1) (by omega)
      exact ⟨(to0 % ((b.length : Int) - i + 1)).toNat, by omega, by omega⟩
    have w5 : IntKind.i64.wrap ((i : Int) + (j : Int)) = ((i + j : Nat) : Int) := by rw [w64 (by omega) (by omega)]; omega
    simp only [hj, w5]
    have c1 : ¬ (b.length : Int) + 1 = 0 := by omega
    have c2 : ¬ (b.length : Int) - (i : Int) + 1 = 0 := by omega
    simp only [br_neg c1, br_neg c2]
    refine Ev.bind (decodeEv b hok (by omega)) ?_
    have c3 : 0 ≤ (0 : Int) ∧ (0 : Int) ≤ (i : Int) ∧ (i : Int) ≤ (b.length : Int) := by omega
    have s1 : (b.take ((i : Int)).toNat).drop ((0 : Int)).toNat = b.take i := by rw [Int.toNat_natCast]; rfl
    simp only [br_pos c3, s1]
    have okx := ok_take hok i
    refine Ev.bind (decodeEv (b.take i) okx (by simp; omega)) ?_
    obtain ⟨okr, lenr⟩ := ok_rest okx
    have lx : (b.take i).length = i := by simp; omega
    have c4 : ((([] : List Int)).length + (rest (b.take i)).length) * 1 ≤ 140737488355328 := by simp; omega
    have c5 : 0 ≤ (i : Int) ∧ (i : Int) ≤ ((i + j : Nat) : Int) ∧ ((i + j : Nat) : Int) ≤ (b.length : Int) := by omega
    have s2 : (b.take (((i + j : Nat) : Int)).toNat).drop ((i : Int)).toNat = (b.take (i + j)).drop i := by rw [Int.toNat_natCast, Int.toNat_natCast]
    have ly : ((b.take (i + j)).drop i).length = j := by simp; omega
    have oky : okBs ((b.take (i + j)).drop i) = true := ok_drop (ok_take hok _) _
    have c6 : ((rest (b.take i)).length + ((b.take (i + j)).drop i).length) * 1 ≤ 140737488355328 := by omega
    simp only [br_pos c4, br_pos c5, s2, br_pos c6, List.nil_append]
    have okxy : okBs (rest (b.take i) ++ (b.take (i + j)).drop i) = true := ok_append okr oky
    refine Ev.bind (decodeEv _ okxy (by rw [List.length_append]; omega)) ?_
    obtain ⟨okr2, lenr2⟩ := ok_rest okxy
    rw [List.length_append] at lenr2
    have c7 : ((([] : List Int)).length + (rest (rest (b.take i) ++ (b.take (i + j)).drop i)).length) * 1 ≤ 140737488355328 := by simp only [List.length_nil]; omega
    have c8 : 0 ≤ ((i + j : Nat) : Int) ∧ ((i + j : Nat) : Int) ≤ (b.length : Int) ∧ (b.length : Int) ≤ (b.length : Int) := by omega
    have s3 : (b.take ((b.length : Int)).toNat).drop (((i + j : Nat) : Int)).toNat = b.drop (i + j) := by rw [Int.toNat_natCast, Int.toNat_natCast, List.take_length]
    have c9 : ((rest (rest (b.take i) ++ (b.take (i + j)).drop i)).length + (b.drop (i + j)).length) * 1 ≤ 140737488355328 := by rw [List.length_drop]; omega
    simp only [br_pos c7, br_pos c8, s3, br_pos c9]
    have okz : okBs (rest (rest (b.take i) ++ (b.take (i + j)).drop i) ++ b.drop (i + j)) = true := ok_append okr2 (ok_drop hok _)
    refine Ev.bind (decodeEv _ okz (by rw [List.length_append, List.length_drop]; omega)) ?_
    have hb : b = b.take i ++ ((b.take (i + j)).drop i ++ b.drop (i + j)) := by
      have h1 : b.take i ++ (b.take (i + j)).drop i = b.take (i + j) := by
        have := List.take_append_drop i (b.take (i + j))
        rwa [List.take_take, Nat.min_eq_left (by omega)] at this
      rw [← List.append_assoc, h1, List.take_append_drop]
    have t1 := msgs_two (b.take i) ((b.take (i + j)).drop i ++ b.drop (i + j))
    have t2 := msgs_two (rest (b.take i) ++ (b.take (i + j)).drop i) (b.drop (i + j))
    rw [← hb, ← List.append_assoc (rest (b.take i))] at t1
    have l1 := msgs_le (b.take i)
    have l2 := msgs_le (rest (b.take i) ++ (b.take (i + j)).drop i)
    have l3 := msgs_le (rest (rest (b.take i) ++ (b.take (i + j)).drop i) ++ b.drop (i + j))
    have l0 := msgs_le b
    rw [List.length_append] at l2 l3
    rw [List.length_drop] at l3
    have hall : msgs b = msgs (b.take i) ++ msgs (rest (b.take i) ++ (b.take (i + j)).drop i) ++ msgs (rest (rest (b.take i) ++ (b.take (i + j)).drop i) ++ b.drop (i + j)) := by
      rw [t1.1, t2.1, List.append_assoc]
    have hrest : rest b = rest (rest (rest (b.take i) ++ (b.take (i + j)).drop i) ++ b.drop (i + j)) := by rw [t1.2, t2.2]
    generalize msgs (b.take i) = m1 at *
    generalize msgs (rest (b.take i) ++ (b.take (i + j)).drop i) = m2 at *
    generalize msgs (rest (rest (b.take i) ++ (b.take (i + j)).drop i) ++ b.drop (i + j)) = m3 at *
    have d1 : ((([] : List Msg)).length + m1.length) * 40 ≤ 140737488355328 := by simp only [List.length_nil]; omega
    have d2 : (m1.length + m2.length) * 40 ≤ 140737488355328 := by omega
    have d3 : ((m1 ++ m2).length + m3.length) * 40 ≤ 140737488355328 := by rw [List.length_append]; omega
    simp only [br_pos d1, List.nil_append, br_pos d2, br_pos d3]
    refine Ev.bind (sameAllEv _ _ (by omega) fun x hx => valid_nums (msgs_valid x hx)) ?_
    obtain ⟨_, lrb⟩ := ok_rest hok
    refine Ev.bind (bytesEv _ _ (by omega)) ?_
    refine Ev.br_true rfl (Ev.br_true (by rw [decide_eq_true_eq]; exact hall) ((Ev.pure _).congr ?_))
    rw [decide_eq_true_eq]
    exact hrest

/-! ### P32.3 -/
def stream (t : List Int) : List Msg → List (List Int) → List Int
  | [], _ => t
  | a :: l, bs => bs.headD [] ++ encode a ++ stream t l bs.tail
theorem stream_tail (t : List Int) : ∀ (l : List Msg) (bs : List (List Int)), stream t l bs = stream [] l bs ++ t := by
  intro l
  induction l with
  | nil => intro bs; simp [stream]
  | cons a l ih => intro bs; simp only [stream]; rw [ih]; simp
theorem stream_sub (t : List Int) : ∀ (l : List Msg) (bs : List (List Int)) (x : List Int), (l.filter valid).Sublist (msgs (x ++ stream t l bs)) := by
  intro l
  induction l with
  | nil => intro bs x; simp
  | cons a l ih =>
    intro bs x
    cases hv : valid a with
    | false =>
      have he : encode a = [] := by unfold encode; rw [hv]; rfl
      have := ih bs.tail (x ++ bs.headD [])
      rw [List.filter_cons_of_neg (by rw [hv]; simp)]
      simp only [stream, he, List.append_nil]
      rw [← List.append_assoc]
      exact this
    | true =>
      have he := encode_valid hv
      have e1 : x ++ stream t (a :: l) bs = (x ++ bs.headD []) ++ 126 :: (body a ++ 126 :: stream t l bs.tail) := by
        simp [stream, he]
      have h2 := ih bs.tail [126]
      have e2 : [126] ++ stream t l bs.tail = [] ++ 126 :: stream t l bs.tail := rfl
      rw [e2, msgs_mark] at h2
      rw [List.filter_cons_of_pos (by rw [hv]), e1, msgs_mark, splitB_append, splitB_none (body_free a)]
      have e3 : ([body a] ++ splitB 126 (stream t l bs.tail)).dropLast = body a :: (splitB 126 (stream t l bs.tail)).dropLast := by
        rw [List.dropLast_append_of_ne_nil (splitB_ne _)]; rfl
      rw [e3, List.filterMap_append, List.filterMap_cons, piece_body hv]
      have e4 : (splitB 126 ([] : List Int)).drop 1 = [] := rfl
      rw [e4, List.nil_append] at h2
      exact List.Sublist.trans (List.Sublist.cons_cons a h2) (List.sublist_append_right _ _)
theorem encode_le (a : Msg) : (encode a).length ≤ 120 := by
  cases hv : valid a with
  | true => exact (encode_length hv).2
  | false => unfold encode; rw [hv]; simp

theorem resyncL6 (l : List Msg) (bs : List (List Int)) (hll : l.length ≤ 12) (hok : ∀ b ∈ bs, okBs b = true) :
    ∀ (r : List Msg) (i : Nat) (line : List Int), l.drop i = r → i ≤ l.length → line.length ≤ 520 * i → okBs line = true →
      ∃ y, Ev (fun n => l32FramingResynchronizationL6 m n ((l, (bs, (true, (line, ((i : Int), ()))))), ())) y ∧
        (y = .inr ((true, ()), ()) ∨ ((∀ x ∈ r, x.2.2.length ≤ 30) ∧ y = .inl ((l, (bs, (true, (line ++ stream [] r (bs.drop i), ())))), ()) ∧ (line ++ stream [] r (bs.drop i)).length ≤ 520 * l.length ∧ okBs (line ++ stream [] r (bs.drop i)) = true)) := by
  intro r
  induction r with
  | nil =>
    intro i line hd hi hlen hln
    have := List.drop_eq_nil_iff.1 hd
    refine ⟨_, Ev.of_eq 1 ?_, .inr ⟨by simp, rfl, ?_, ?_⟩⟩
    · simp (disch := omega) only [l32FramingResynchronizationL6Eq, br_neg]
      exact (Ev.pure _).congr (by simp [stream])
    · simp only [stream, List.append_nil]; omega
    · simpa [stream] using hln
  | cons a r ih =>
    intro i line hd hi hlen hln
    obtain ⟨h1, h2, h3⟩ := dropA hd
    have hel := encode_le a
    have heo := ok_encode a
    by_cases hbig : 30 < (a.2.2.length : Int)
    · refine ⟨.inr ((true, ()), ()), Ev.of_eq 1 ?_, .inl rfl⟩
      simp (disch := omega) only [l32FramingResynchronizationL6Eq, br_pos, Int.toNat_natCast, h1, Option.bind_some]
      refine Ev.bind (x := .inr ((true, ()), ())) ?_ ?_
      · refine Ev.bind (greatEv a.1 a.2.1 a.2.2) ?_
        rw [decide_eq_true hbig]
        exact Ev.pure _
      · exact Ev.pure _
    · by_cases hb : i < bs.length
      · have hbi : bs[i]? = some bs[i] := List.getElem?_eq_getElem hb
        have hbo := hok bs[i] (List.getElem_mem hb)
        have hbd : bs.drop i = bs[i] :: bs.drop (i + 1) := List.drop_eq_getElem_cons hb
        by_cases hlong : 400 < ((bs[i]).length : Int)
        · refine ⟨.inr ((true, ()), ()), Ev.of_eq 1 ?_, .inl rfl⟩
          simp (disch := omega) only [l32FramingResynchronizationL6Eq, br_pos, Int.toNat_natCast, h1, Option.bind_some]
          refine Ev.bind (x := .inr ((true, ()), ())) ?_ ?_
          · refine Ev.bind (greatEv a.1 a.2.1 a.2.2) ?_
            rw [decide_eq_false hbig]
            refine Ev.br_false rfl ?_
            simp (disch := omega) only [br_pos, hbi, Option.bind_some]
            exact Ev.pure _
          · exact Ev.pure _
        · obtain ⟨y, k1, k2⟩ := ih (i + 1) (line ++ bs[i] ++ encode a) h2 (by omega) (by rw [List.length_append, List.length_append]; omega) (ok_append (ok_append hln hbo) heo)
          have es : line ++ bs[i] ++ encode a ++ stream [] r (bs.drop (i + 1)) = line ++ stream [] (a :: r) (bs.drop i) := by
            rw [hbd]; simp only [stream, List.headD_cons, List.tail_cons, List.append_assoc]
          rw [es] at k2
          refine ⟨y, Ev.of_eq 1 ?_, ?_⟩
          · have q1 : (line.length + (bs[i]).length) * 1 ≤ 140737488355328 := by omega
            have q2 : ((line ++ bs[i]).length + (encode (a.1, (a.2.1, a.2.2))).length) * 1 ≤ 140737488355328 := by
              have : (encode (a.1, (a.2.1, a.2.2))).length ≤ 120 := hel
              rw [List.length_append]; omega
            simp (disch := omega) only [l32FramingResynchronizationL6Eq, br_pos, Int.toNat_natCast, h1, Option.bind_some]
            refine Ev.bind (x := .inl ((l, (bs, (true, (line ++ bs[i] ++ encode a, ((i : Int), ()))))), ())) ?_ ?_
            · refine Ev.bind (greatEv a.1 a.2.1 a.2.2) ?_
              rw [decide_eq_false hbig]
              refine Ev.br_false rfl ?_
              simp (disch := omega) only [br_pos, br_neg, Int.toNat_natCast, hbi, h1, Option.bind_some, br_pos q1]
              refine Ev.bind (encodeEv _ _ _ (by omega)) ?_
              simp only [br_pos q2]
              exact Ev.pure _
            · simp only [wr i (by omega)]
              exact k1
          · rcases k2 with k2 | ⟨k2, k3⟩
            · exact .inl k2
            · refine .inr ⟨fun x hx => ?_, k3⟩
              rcases List.mem_cons.1 hx with rfl | hx
              · omega
              · exact k2 x hx
      · have hbd : bs.drop i = [] := List.drop_eq_nil_iff.2 (by omega)
        have hbd' : bs.drop (i + 1) = [] := List.drop_eq_nil_iff.2 (by omega)
        obtain ⟨y, k1, k2⟩ := ih (i + 1) (line ++ encode a) h2 (by omega) (by rw [List.length_append]; omega) (ok_append hln heo)
        have es : line ++ encode a ++ stream [] r (bs.drop (i + 1)) = line ++ stream [] (a :: r) (bs.drop i) := by
          rw [hbd, hbd']; simp [stream]
        rw [es] at k2
        refine ⟨y, Ev.of_eq 1 ?_, ?_⟩
        · have q2 : (line.length + (encode (a.1, (a.2.1, a.2.2))).length) * 1 ≤ 140737488355328 := by
            have : (encode (a.1, (a.2.1, a.2.2))).length ≤ 120 := hel
            omega
          simp (disch := omega) only [l32FramingResynchronizationL6Eq, br_pos, Int.toNat_natCast, h1, Option.bind_some]
          refine Ev.bind (x := .inl ((l, (bs, (true, (line ++ encode a, ((i : Int), ()))))), ())) ?_ ?_
          · refine Ev.bind (greatEv a.1 a.2.1 a.2.2) ?_
            rw [decide_eq_false hbig]
            refine Ev.br_false rfl ?_
            simp (disch := omega) only [br_pos, br_neg, Int.toNat_natCast, h1, Option.bind_some]
            refine Ev.bind (encodeEv _ _ _ (by omega)) ?_
            simp only [br_pos q2]
            exact Ev.pure _
          · simp only [wr i (by omega)]
            exact k1
        · rcases k2 with k2 | ⟨k2, k3⟩
          · exact .inl k2
          · refine .inr ⟨fun x hx => ?_, k3⟩
            rcases List.mem_cons.1 hx with rfl | hx
            · omega
            · exact k2 x hx

theorem resyncL23 (l : List Msg) (up : Bool) (got : List Msg) (hgot : ∀ x ∈ got, x.2.2.length ≤ 140737488355328) (hgl : got.length ≤ 1000000) (i : Nat) (a : Msg) (hi : l[i]? = some a) :
    ∀ (r : List Msg) (k : Nat), got.drop k = r → k ≤ got.length → ∃ k' f, Ev (fun n => l32FramingResynchronizationL23 m n ((l, (up, (got, ((k : Int), ((i : Int), (false, ())))))), ())) (((l, (up, (got, (((k' : Nat) : Int), ((i : Int), (f, ())))))), ())) ∧ k' ≤ got.length ∧
      (∀ xs : List Msg, (a :: xs).Sublist r → f = true ∧ xs.Sublist (got.drop k')) := by
  intro r
  induction r with
  | nil =>
    intro k hd hk
    have := List.drop_eq_nil_iff.1 hd
    refine ⟨k, false, Ev.of_eq 1 ?_, hk, fun xs h => by simp at h⟩
    simp (disch := omega) only [l32FramingResynchronizationL23Eq, br_neg]
    exact Ev.pure _
  | cons x r ih =>
    intro k hd hk
    obtain ⟨h1, h2, h3⟩ := dropA hd
    by_cases hx : x = a
    · refine ⟨k + 1, true, Ev.of_eq 1 ?_, by omega, fun xs h => ⟨rfl, ?_⟩⟩
      · simp (disch := omega) only [l32FramingResynchronizationL23Eq, br_pos, Int.toNat_natCast, h1, hi, Option.bind_some]
        refine Ev.br_true rfl ?_
        refine Ev.bind (sameEv x a (hgot x (List.mem_of_getElem? h1))) ?_
        simp only [wr k (by omega)]
        have hdx : decide (x = a) = true := by rw [decide_eq_true_eq]; exact hx
        rw [hdx]
        refine Ev.of_eq 1 ?_
        by_cases hk1 : k + 1 < got.length
        · simp (disch := omega) only [l32FramingResynchronizationL23Eq, br_pos]
          exact Ev.br_false rfl (Ev.pure _)
        · simp (disch := omega) only [l32FramingResynchronizationL23Eq, br_neg]
          exact Ev.pure _
      · subst hx
        rw [h2]
        exact List.cons_sublist_cons.1 h
    · obtain ⟨k', f, e1, e2, e3⟩ := ih (k + 1) h2 (by omega)
      refine ⟨k', f, Ev.of_eq 1 ?_, e2, fun xs h => e3 xs ?_⟩
      · simp (disch := omega) only [l32FramingResynchronizationL23Eq, br_pos, Int.toNat_natCast, h1, hi, Option.bind_some]
        refine Ev.br_true rfl ?_
        refine Ev.bind (sameEv x a (hgot x (List.mem_of_getElem? h1))) ?_
        simp only [wr k (by omega)]
        have hdx : decide (x = a) = false := by rw [decide_eq_false_iff_not]; exact hx
        rw [hdx]
        exact e1
      · cases h with
        | cons _ h => exact h
        | cons_cons _ h => exact absurd rfl hx

theorem resyncL19 (l : List Msg) (got : List Msg) (hgot : ∀ x ∈ got, x.2.2.length ≤ 140737488355328) (hl : ∀ x ∈ l, x.2.2.length ≤ 140737488355328) (hgl : got.length ≤ 1000000) (hll : l.length ≤ 1000000) :
    ∀ (r : List Msg) (i k : Nat), l.drop i = r → i ≤ l.length → k ≤ got.length → (r.filter valid).Sublist (got.drop k) →
      Ev (fun n => l32FramingResynchronizationL19 m n ((l, (true, (got, ((k : Int), ((i : Int), ()))))), ())) (.inl ((true, ()), ())) := by
  intro r
  induction r with
  | nil =>
    intro i k hd hi hk _
    have := List.drop_eq_nil_iff.1 hd
    refine Ev.of_eq 1 ?_
    simp (disch := omega) only [l32FramingResynchronizationL19Eq, br_neg]
    exact Ev.pure _
  | cons a r ih =>
    intro i k hd hi hk hs
    obtain ⟨h1, h2, h3⟩ := dropA hd
    refine Ev.of_eq 1 ?_
    simp (disch := omega) only [l32FramingResynchronizationL19Eq, br_pos, Int.toNat_natCast, h1, Option.bind_some]
    cases hv : valid a with
    | false =>
      rw [List.filter_cons_of_neg (by rw [hv]; simp)] at hs
      refine Ev.bind (x := .inl ((l, (true, (got, ((k : Int), ((i : Int), ()))))), ())) ?_ ?_
      · refine Ev.bind (validEv _ _ _ (hl a (List.mem_of_getElem? h1))) ?_
        have hv' : valid (a.1, (a.2.1, a.2.2)) = false := hv
        rw [hv']
        exact Ev.pure _
      · simp only [wr i (by omega)]
        exact ih (i + 1) k h2 (by omega) hk hs
    | true =>
      rw [List.filter_cons_of_pos (by rw [hv])] at hs
      obtain ⟨k', f, e1, e2, e3⟩ := resyncL23 (m := m) l true got hgot hgl i a h1 (got.drop k) k rfl hk
      obtain ⟨rfl, hs'⟩ := e3 _ hs
      refine Ev.bind (x := .inl ((l, (true, (got, ((k' : Int), ((i : Int), ()))))), ())) ?_ ?_
      · refine Ev.bind (validEv _ _ _ (hl a (List.mem_of_getElem? h1))) ?_
        have hv' : valid (a.1, (a.2.1, a.2.2)) = true := hv
        rw [hv']
        exact Ev.bind e1 (Ev.pure _)
      · simp only [wr i (by omega)]
        exact ih (i + 1) k' h2 (by omega) e2 hs'

theorem resync (l : List Msg) (bs : List (List Int)) (hok : ∀ b ∈ bs, okBs b = true) : Ev (fun n => l32FramingResynchronization m n l bs) true := by
  refine Ev.of_eq 1 ?_
  simp only [l32FramingResynchronizationEq]
  refine Ev.bind headEv ?_
  by_cases hg : 12 < (l.length : Int)
  · simp only [br_pos hg]; exact Ev.pure _
  · simp only [br_neg hg]
    obtain ⟨y, k1, k2⟩ := resyncL6 (m := m) l bs (by omega) hok l 0 [] rfl (Nat.zero_le _) (by simp) rfl
    refine Ev.bind k1 ?_
    rcases k2 with rfl | ⟨hn, rfl, hlen, hlo⟩
    · exact Ev.pure _
    · simp only
      have fin : ∀ t : List Int, t.length ≤ 400 → okBs t = true → ∀ X : Nat → (List Msg × (Bool × (List Int × Unit))) × Unit → Option Bool,
          X = (fun n j => (framingDecode m n j.1.2.2.1).bind fun x202 => (l32FramingResynchronizationL19 m n ((j.1.1, (j.1.2.1, (x202.1, ((0 : Int), ((0 : Int), ()))))), ())).bind fun l212 => (match l212 with | .inl y213 => some y213.1.1 | .inr y214 => some y214.1.1)) →
          Ev (fun n => X n ((l, (true, (([] ++ stream [] l (bs.drop 0)) ++ t, ()))), ())) true := by
        intro t ht hto X hX
        subst hX
        simp only
        have ho : okBs (([] ++ stream [] l (bs.drop 0)) ++ t) = true := ok_append hlo hto
        have hL : (([] ++ stream [] l (bs.drop 0)) ++ t).length ≤ 100000 := by
          rw [List.length_append]
          omega
        refine Ev.bind (decodeEv _ ho hL) ?_
        have hs := stream_sub t l (bs.drop 0) []
        rw [stream_tail] at hs
        have hm := msgs_le (([] ++ stream [] l (bs.drop 0)) ++ t)
        refine Ev.bind (resyncL19 l _ (fun x hx => valid_nums (msgs_valid x hx)) (fun x hx => by have := hn x hx; omega) (by omega) (by omega) l 0 0 rfl (Nat.zero_le _) (Nat.zero_le _) (by simpa using hs)) ?_
        exact Ev.pure _
      by_cases hb : l.length < bs.length
      · have hbi : bs[l.length]? = some bs[l.length] := List.getElem?_eq_getElem hb
        have hbo := hok bs[l.length] (List.getElem_mem hb)
        by_cases hlong : ((bs[l.length]).length : Int) ≤ 400
        · have q : (([] ++ stream [] l (bs.drop 0)).length + (bs[l.length]).length) * 1 ≤ 140737488355328 := by omega
          simp (disch := omega) only [br_pos, Int.toNat_natCast, hbi, Option.bind_some, br_pos q]
          exact fin bs[l.length] (by omega) hbo _ rfl
        · simp (disch := omega) only [br_pos, br_neg, Int.toNat_natCast, hbi, Option.bind_some]
          have := fin [] (by simp) rfl _ rfl
          simp only [List.append_nil] at this
          exact this
      · simp (disch := omega) only [br_neg, Option.bind_some]
        have := fin [] (by simp) rfl _ rfl
        simp only [List.append_nil] at this
        exact this

/-! ### P32.7 -/
def occ (b p : List Int) (j : Nat) : Prop := j + p.length ≤ b.length ∧ (b.drop j).take p.length = p
def found (b : List Int) : List Msg → Nat → Prop
  | [], _ => True
  | a :: l, k => ∃ j, k ≤ j ∧ occ b (encode a) j ∧ found b l (j + (encode a).length - 1)
theorem found_mono {b : List Int} : ∀ {l : List Msg} {k k' : Nat}, k ≤ k' → found b l k' → found b l k := by
  intro l
  cases l with
  | nil => intro k k' _ _; trivial
  | cons a l =>
    rintro k k' h ⟨j, h1, h2, h3⟩
    exact ⟨j, by omega, h2, h3⟩
theorem first_mark {l : List Int} (h : (126 : Int) ∈ l) : ∃ u v, l = u ++ 126 :: v ∧ 126 ∉ u := by
  induction l with
  | nil => simp at h
  | cons x l ih =>
    by_cases hx : x = 126
    · exact ⟨[], l, by rw [hx]; rfl, by simp⟩
    · rcases List.mem_cons.1 h with rfl | h
      · exact absurd rfl hx
      · obtain ⟨u, v, rfl, h2⟩ := ih h
        exact ⟨x :: u, v, rfl, by simp only [List.mem_cons, not_or]; exact ⟨fun e => hx e.symm, h2⟩⟩
theorem found_msgs : ∀ (k : Nat) (w pre b : List Int), w.length ≤ k → b = pre ++ 126 :: w → found b ((splitB 126 w).dropLast.filterMap piece) pre.length := by
  intro k
  induction k with
  | zero =>
    intro w pre b hk hb
    have : w = [] := List.eq_nil_of_length_eq_zero (by omega)
    subst this
    trivial
  | succ k ih =>
    intro w pre b hk hb
    by_cases h : (126 : Int) ∈ w
    · obtain ⟨p, w', rfl, hp⟩ := first_mark h
      rw [splitB_append, splitB_none hp]
      have e3 : ([p] ++ splitB 126 w').dropLast = p :: (splitB 126 w').dropLast := by
        rw [List.dropLast_append_of_ne_nil (splitB_ne _)]; rfl
      rw [e3, List.filterMap_cons]
      have hw : w'.length ≤ k := by rw [List.length_append, List.length_cons] at hk; omega
      have key := ih w' (pre ++ 126 :: p) b hw (by rw [hb]; simp)
      have hpl : (pre ++ 126 :: p).length = pre.length + p.length + 1 := by simp; omega
      cases hpc : piece p with
      | none => exact found_mono (by omega) key
      | some a =>
        obtain ⟨hv, hpb⟩ := piece_some hpc
        have he : encode a = [126] ++ p ++ [126] := by rw [encode_valid hv, hpb]
        have hel : (encode a).length = p.length + 2 := by rw [he]; simp
        refine ⟨pre.length, Nat.le_refl _, ⟨?_, ?_⟩, ?_⟩
        · rw [hb, hel]; simp
        · rw [hb, List.drop_append_of_le_length (Nat.le_refl _), List.drop_length, List.nil_append, hel, he]
          have : (126 :: (p ++ 126 :: w') : List Int) = ([126] ++ p ++ [126]) ++ w' := by simp
          rw [this, List.take_append_of_le_length (by simp)]
          exact List.take_of_length_le (by simp)
        · rw [hel]
          rw [hpl] at key
          have : pre.length + (p.length + 2) - 1 = pre.length + p.length + 1 := by omega
          rw [this]
          exact key
    · rw [splitB_none h]
      trivial
theorem found_all (b : List Int) : found b (msgs b) 0 := by
  by_cases h : (126 : Int) ∈ b
  · obtain ⟨u, w, rfl, hu⟩ := first_mark h
    have := found_msgs w.length w u _ (Nat.le_refl _) rfl
    have e : msgs (u ++ 126 :: w) = (splitB 126 w).dropLast.filterMap piece := by
      rw [msgs_mark, splitB_none hu]
      rfl
    rw [e]
    exact found_mono (Nat.zero_le _) this
  · have : msgs b = [] := by unfold msgs; rw [splitB_none h]; rfl
    rw [this]
    trivial

theorem standsL2 (b p : List Int) (hb : b.length ≤ 100000) (hp : p.length ≤ 1000) : ∀ (d i : Nat) (j : Nat), occ b p j → i + d = j →
    ∃ k : Nat, i ≤ k ∧ k ≤ j ∧ occ b p k ∧ Ev (fun n => l32StandsL2 m n ((b, (p, ((i : Int), ()))), ())) (.inr ((((k : Int), ()), ()))) := by
  intro d
  induction d with
  | zero =>
    intro i j hj hd
    have : i = j := by omega
    subst this
    refine ⟨i, Nat.le_refl _, Nat.le_refl _, hj, Ev.of_eq 1 ?_⟩
    obtain ⟨h1, h2⟩ := hj
    have w1 : IntKind.i64.wrap ((i : Int) + (p.length : Int)) = ((i + p.length : Nat) : Int) := by rw [w64 (by omega) (by omega)]; omega
    have c1 : 0 ≤ (i : Int) ∧ (i : Int) ≤ ((i + p.length : Nat) : Int) ∧ ((i + p.length : Nat) : Int) ≤ (b.length : Int) := by omega
    have s1 : (b.take (((i + p.length : Nat) : Int)).toNat).drop ((i : Int)).toNat = p := by
      rw [Int.toNat_natCast, Int.toNat_natCast, ← List.take_drop, h2]
    simp (disch := omega) only [l32StandsL2Eq, w1, br_pos c1, br_pos, s1]
    refine Ev.bind (bytesEv p p (by omega)) (Ev.br_true (by simp) (Ev.pure _))
  | succ d ih =>
    intro i j hj hd
    obtain ⟨k, k1, k2, k3, k4⟩ := ih (i + 1) j hj (by omega)
    obtain ⟨h1, _⟩ := hj
    have w1 : IntKind.i64.wrap ((i : Int) + (p.length : Int)) = ((i + p.length : Nat) : Int) := by rw [w64 (by omega) (by omega)]; omega
    have c1 : 0 ≤ (i : Int) ∧ (i : Int) ≤ ((i + p.length : Nat) : Int) ∧ ((i + p.length : Nat) : Int) ≤ (b.length : Int) := by omega
    have s1 : (b.take (((i + p.length : Nat) : Int)).toNat).drop ((i : Int)).toNat = (b.drop i).take p.length := by
      rw [Int.toNat_natCast, Int.toNat_natCast, ← List.take_drop]
    by_cases he : (b.drop i).take p.length = p
    · refine ⟨i, Nat.le_refl _, by omega, ⟨by omega, he⟩, Ev.of_eq 1 ?_⟩
      simp (disch := omega) only [l32StandsL2Eq, w1, br_pos c1, br_pos, s1]
      refine Ev.bind (bytesEv _ p (by simp; omega)) (Ev.br_true (by simpa using he) (Ev.pure _))
    · refine ⟨k, by omega, k2, k3, Ev.of_eq 1 ?_⟩
      simp (disch := omega) only [l32StandsL2Eq, w1, br_pos c1, br_pos, s1]
      refine Ev.bind (bytesEv _ p (by simp; omega)) (Ev.br_false (by simpa using he) ?_)
      simp only [wr i (by omega)]
      exact k4
theorem standsEv (b p : List Int) (hb : b.length ≤ 100000) (hp : p.length ≤ 1000) (i j : Nat) (hj : occ b p j) (hij : i ≤ j) :
    ∃ k : Nat, i ≤ k ∧ k ≤ j ∧ occ b p k ∧ Ev (fun n => l32Stands m n b p (i : Int)) (k : Int) := by
  obtain ⟨k, k1, k2, k3, k4⟩ := standsL2 (m := m) b p hb hp (j - i) i j hj (by omega)
  refine ⟨k, k1, k2, k3, Ev.of_eq 1 ?_⟩
  simp only [l32StandsEq]
  exact Ev.bind k4 (Ev.pure _)

theorem onlyL7 (b left : List Int) (l : List Msg) (hb : b.length ≤ 100000) (hl : l.length ≤ 100000) (hv : ∀ a ∈ l, valid a = true) : ∀ (r : List Msg) (i at0 : Nat), l.drop i = r → i ≤ l.length → at0 ≤ 100000 → found b r at0 →
    Ev (fun n => l32FramingOnlyFramesL7 m n ((b, (true, (l, (left, ((at0 : Int), ((i : Int), ())))))), ())) (.inl ((b, (true, (l, (left, ())))), ())) := by
  intro r
  induction r with
  | nil =>
    intro i at0 hd hi ha _
    have := List.drop_eq_nil_iff.1 hd
    refine Ev.of_eq 1 ?_
    simp (disch := omega) only [l32FramingOnlyFramesL7Eq, br_neg]
    exact Ev.pure _
  | cons a r ih =>
    intro i at0 hd hi ha hf
    obtain ⟨h1, h2, h3⟩ := dropA hd
    obtain ⟨j, f1, f2, f3⟩ := hf
    have hva := hv a (List.mem_of_getElem? h1)
    obtain ⟨e1, e2⟩ := encode_length hva
    obtain ⟨k, k1, k2, k3, k4⟩ := standsEv (m := m) b (encode a) hb (by omega) at0 j f2 f1
    have hk := k3.1
    refine Ev.of_eq 1 ?_
    simp (disch := omega) only [l32FramingOnlyFramesL7Eq, br_pos, Int.toNat_natCast, h1, Option.bind_some]
    refine Ev.bind (encodeEv _ _ _ (valid_nums hva)) ?_
    refine Ev.bind (x := (k : Int)) k4 ?_
    refine Ev.bind (validEv _ _ _ (valid_nums hva)) ?_
    have hva' : valid (a.1, (a.2.1, a.2.2)) = true := hva
    rw [hva']
    refine Ev.br_false rfl ?_
    have q1 : ¬ ((encode (a.1, (a.2.1, a.2.2))).length : Int) < 9 := by
      have : 9 ≤ (encode (a.1, (a.2.1, a.2.2))).length := e1
      omega
    have q2 : ¬ (k : Int) < 0 := by omega
    have w1 : IntKind.i64.wrap (IntKind.i64.wrap ((k : Int) + ((encode (a.1, (a.2.1, a.2.2))).length : Int)) - 1) = ((k + (encode a).length - 1 : Nat) : Int) := by
      have h9 : (encode (a.1, (a.2.1, a.2.2))).length = (encode a).length := rfl
      rw [h9, w64 (n := (k : Int) + ((encode a).length : Int)) (by omega) (by omega), w64 (by omega) (by omega)]
      omega
    simp only [br_neg q1, br_neg q2, w1, wr i (by omega)]
    exact ih (i + 1) (k + (encode a).length - 1) h2 (by omega) (by omega) (found_mono (by omega) f3)

theorem onlyL16 (b left : List Int) (l : List Msg) (hb : b.length ≤ 100000) : ∀ (r : List Int) (i c : Nat), b.drop i = r → i ≤ b.length → c ≤ i →
    Ev (fun n => l32FramingOnlyFramesL16 m n ((b, (true, (l, (left, ((c : Int), ((i : Int), ())))))), ())) ((b, (true, (l, (left, (((c + r.count 126 : Nat) : Int), ()))))), ()) := by
  intro r
  induction r with
  | nil =>
    intro i c hd hi hc
    have := drop_nil hd
    refine Ev.of_eq 1 ?_
    simp (disch := omega) only [l32FramingOnlyFramesL16Eq, br_neg]
    exact (Ev.pure _).congr (by simp)
  | cons x r ih =>
    intro i c hd hi hc
    obtain ⟨h1, h2, h3⟩ := drop_get hd
    refine Ev.of_eq 1 ?_
    by_cases hx : x = 126
    · subst hx
      have := ih (i + 1) (c + 1) h2 (by omega) (by omega)
      simp (disch := omega) only [l32FramingOnlyFramesL16Eq, br_pos, br_T, Int.toNat_natCast, h1, Option.bind_some, wr i (by omega), wr c (by omega)]
      exact this.congr (by rw [List.count_cons_self]; simp only [Nat.add_assoc, Nat.add_comm 1])
    · have := ih (i + 1) c h2 (by omega) (by omega)
      simp (disch := omega) only [l32FramingOnlyFramesL16Eq, br_pos, br_neg hx, Int.toNat_natCast, h1, Option.bind_some, wr i (by omega)]
      exact this.congr (by rw [List.count_cons_of_ne (by simpa using hx)])

theorem onlyL25 (b left : List Int) (l : List Msg) (c : Int) (hb : left.length ≤ 100000) (hn : 126 ∉ left.drop 1) : ∀ (r : List Int) (i : Nat), left.drop i = r → i ≤ left.length → 1 ≤ i →
    Ev (fun n => l32FramingOnlyFramesL25 m n ((b, (true, (l, (left, (c, ((i : Int), ())))))), ())) (.inl ((b, (true, (l, (left, (c, ()))))), ())) := by
  intro r
  induction r with
  | nil =>
    intro i hd hi h1
    have := drop_nil hd
    refine Ev.of_eq 1 ?_
    simp (disch := omega) only [l32FramingOnlyFramesL25Eq, br_neg]
    exact Ev.pure _
  | cons x r ih =>
    intro i hd hi hi1
    obtain ⟨h1, h2, h3⟩ := drop_get hd
    have hx : ¬ x = 126 := fun e => hn (by
      rw [List.mem_iff_getElem?]
      refine ⟨i - 1, ?_⟩
      rw [List.getElem?_drop, show 1 + (i - 1) = i by omega, h1, e])
    refine Ev.of_eq 1 ?_
    simp (disch := omega) only [l32FramingOnlyFramesL25Eq, br_pos, br_neg hx, Int.toNat_natCast, h1, Option.bind_some, wr i (by omega)]
    exact ih (i + 1) h2 (by omega) (by omega)

theorem splitB_count (y : Int) : ∀ l : List Int, (splitB y l).length = l.count y + 1
  | [] => rfl
  | x :: l => by
    unfold splitB
    by_cases h : x = y
    · subst h; simp [splitB_count]
    · rw [if_neg h, List.count_cons_of_ne (by simpa using h), ← splitB_count y l]
      split
      · rename_i e; rw [e]; simp
      · rename_i e; exact absurd e (splitB_ne l)

theorem onlyFrames (b : List Int) (hok : okBs b = true) : Ev (fun n => l32FramingOnlyFrames m n b) true := by
  refine Ev.of_eq 1 ?_
  simp only [l32FramingOnlyFramesEq]
  refine Ev.bind headEv ?_
  by_cases hg : 400 < (b.length : Int)
  · simp only [br_pos hg]; exact Ev.pure _
  · simp only [br_neg hg]
    refine Ev.bind (decodeEv b hok (by omega)) ?_
    have hml := msgs_le b
    have hml2 := msgs_length b
    rw [splitB_count] at hml2
    refine Ev.bind (onlyL7 b (rest b) (msgs b) (by omega) (by omega) msgs_valid (msgs b) 0 0 rfl (Nat.zero_le _) (Nat.zero_le _) (found_all b)) ?_
    simp only
    refine Ev.bind (onlyL16 b (rest b) (msgs b) (by omega) b 0 0 rfl (Nat.zero_le _) (Nat.le_refl _)) ?_
    rw [Nat.zero_add]
    by_cases h : (126 : Int) ∈ b
    · obtain ⟨u, v, hb, hv⟩ := mem_split h
      have hc : 0 < b.count 126 := List.count_pos_iff.2 h
      have hr : rest b = 126 :: v := by rw [hb, rest_eq u v hv]
      have hlen : b.length = u.length + v.length + 1 := by rw [hb]; simp; omega
      have hdr : b.drop (b.length - (126 :: v).length) = 126 :: v := by
        rw [hlen, List.length_cons, show u.length + v.length + 1 - (v.length + 1) = u.length by omega, hb, List.drop_append_of_le_length (Nat.le_refl _), List.drop_length, List.nil_append]
      rw [hr]
      have q1 : ¬ ((b.count 126 : Nat) : Int) = 0 := by omega
      have q2 : ¬ (((126 :: v : List Int).length : Nat) : Int) = 0 := by simp only [List.length_cons]; omega
      have q3 : ¬ (b.length : Int) < (((126 :: v : List Int).length : Nat) : Int) := by simp only [List.length_cons]; omega
      have g0 : (126 :: v : List Int)[(0 : Int).toNat]? = some 126 := rfl
      have t126 : (126 : Int) = 126 := rfl
      simp only [br_neg q1, br_neg q2, g0, Option.bind_some, nbr_pos t126, br_neg q3]
      refine Ev.bind (onlyL25 b (126 :: v) (msgs b) ((b.count 126 : Nat) : Int) (by simp only [List.length_cons]; omega) hv v 1 rfl (by simp) (Nat.le_refl _)) ?_
      simp only
      have w1 : IntKind.i64.wrap ((b.length : Int) - (((126 :: v : List Int).length : Nat) : Int)) = ((b.length - (126 :: v : List Int).length : Nat) : Int) := by
        rw [w64 (by omega) (by omega)]
        simp only [List.length_cons]
        omega
      have c1 : 0 ≤ ((b.length - (126 :: v : List Int).length : Nat) : Int) ∧ ((b.length - (126 :: v : List Int).length : Nat) : Int) ≤ (b.length : Int) ∧ (b.length : Int) ≤ (b.length : Int) := by omega
      have s1 : (b.take ((b.length : Int)).toNat).drop (((b.length - (126 :: v : List Int).length : Nat) : Int)).toNat = 126 :: v := by
        rw [Int.toNat_natCast, Int.toNat_natCast, List.take_length, hdr]
      simp only [w1, br_pos c1, s1]
      refine Ev.bind (bytesEv _ _ (by simp only [List.length_cons]; omega)) ?_
      refine Ev.br_true rfl (Ev.br_true (by simp) ((Ev.pure _).congr ?_))
      rw [decide_eq_true_eq]
      omega
    · have hc : b.count 126 = 0 := List.count_eq_zero.2 h
      have hm : msgs b = [] := by unfold msgs; rw [splitB_none h]; rfl
      rw [rest_free h, hc, hm]
      have t0 : ((0 : Nat) : Int) = 0 := rfl
      simp only [br_pos t0]
      refine Ev.br_true rfl ?_
      have t1 : ((([] : List Int).length : Nat) : Int) = 0 := rfl
      simp only [br_pos t1]
      exact (Ev.pure _).congr (by simp)
end Go.Fr
