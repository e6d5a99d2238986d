import Derived.Test.YtigkjkmikicnnaaDoorCFbDec
set_option linter.unusedVariables false
set_option linter.unusedSimpArgs false
set_option linter.unnecessarySimpa false
/-
  FRAMING: decoding a stream: what the program's functions give, with enough fuel.
-/
namespace Go.Fb
open Go Go.Am Go.Proofs
variable {m : Int}

theorem equalEv (a b : List Int) (ha : okBs a = true) (hb : okBs b = true) : Ev (fun n => bytesEqual m n a b) (decide (a = b)) := by
  refine Ev.of_eq 1 ?_
  have h : specEqual [.slice false (.int .u8) a, .slice false (.int .u8) b] = some (decide (a = b)) := by
    show (if okBs a = true ∧ okBs b = true then some (decide (a = b)) else none) = _
    rw [if_pos ⟨ha, hb⟩]
  simp only [bytesEqualEq, h]
  exact Ev.pure _
theorem cloneEv (a : List Int) (ha : a.length ≤ 140737488355328) : Ev (fun n => bytesClone m n a) a := by
  refine Ev.of_eq 1 ?_
  have h : specClone [.slice false (.int .u8) a] = some a := by
    show (if a.length ≤ 140737488355328 then some a else none) = _
    rw [if_pos ha]
  simp only [bytesCloneEq, h]
  exact Ev.pure _
theorem splitEv (a : List Int) (ha : okBs a = true) (hl : a.length < 4294967281) : Ev (fun n => bytesSplit m n a [126]) (splitB 126 a) := by
  refine Ev.of_eq 1 ?_
  have h : specSplit [.slice false (.int .u8) a, .slice true (.int .u8) [126]] = some (splitB 126 a) := by
    show (if okBs a = true ∧ okB 126 = true ∧ a.length < 4294967281 then some (splitB 126 a) else none) = _
    rw [if_pos ⟨ha, by decide, hl⟩]
  have h' : specSplit [.slice false (.int .u8) a, .slice false (.int .u8) [126]] = some (splitB 126 a) := h
  first
    | (simp only [bytesSplitEq, h']; exact Ev.pure _)
    | (simp only [bytesSplitEq, h]; exact Ev.pure _)
theorem growEv (k : Nat) (hk : k ≤ 140737488355328) : Ev (fun n => slicesGrow m n (k : Int)) [] := by
  refine Ev.of_eq 1 ?_
  have h : specGrow [.nil, .int .i64 (k : Int)] = some [] := by
    show (if 0 ≤ (k : Int) ∧ (k : Int) ≤ 140737488355328 then some [] else none) = _
    rw [if_pos (by omega)]
  simp only [slicesGrowEq, h]
  exact Ev.pure _

def total : List (List Int) → Nat
  | [] => 0
  | p :: l => p.length + total l
theorem flatten_total (l : List (List Int)) : l.flatten.length = total l := by
  induction l with
  | nil => rfl
  | cons p l ih => simp [total, ih]

theorem concatL3 (l : List (List Int)) (hl : l.length ≤ 1000000) : ∀ (r : List (List Int)) (i s : Nat), l.drop i = r → i ≤ l.length → s + total r ≤ 1000000000 →
    Ev (fun n => slicesConcatL3 m n ((l, ((s : Int), (l, ((l.length : Int), ((i : Int), ()))))), ())) ((l, (((s + total r : Nat) : Int), ())), ()) := by
  intro r
  induction r with
  | nil =>
    intro i s hd hi hs
    have := List.drop_eq_nil_iff.1 hd
    refine Ev.of_eq 1 ?_
    simp (disch := omega) only [slicesConcatL3Eq, br_neg]
    exact Ev.pure _
  | cons p r ih =>
    intro i s hd hi hs
    obtain ⟨h1, h2, h3⟩ := dropA hd
    simp only [total] at hs ⊢
    have e1 : IntKind.i64.wrap ((s : Int) + (p.length : Int)) = ((s + p.length : Nat) : Int) := by rw [w64 (by omega) (by omega)]; omega
    refine Ev.of_eq 1 ?_
    simp (disch := omega) only [slicesConcatL3Eq, br_pos, br_neg, Int.toNat_natCast, h1, Option.bind_some, e1, wr i (by omega)]
    exact (ih (i + 1) (s + p.length) h2 (by omega) (by omega)).congr (by rw [Nat.add_assoc])
theorem concatL11 (l : List (List Int)) (hl : l.length ≤ 1000000) : ∀ (r : List (List Int)) (i : Nat) (out : List Int), l.drop i = r → i ≤ l.length → out.length + total r ≤ 1000000000 →
    Ev (fun n => slicesConcatL11 m n ((out, (l, ((l.length : Int), ((i : Int), ())))), ())) ((out ++ r.flatten, ()), ()) := by
  intro r
  induction r with
  | nil =>
    intro i out hd hi hs
    have := List.drop_eq_nil_iff.1 hd
    refine Ev.of_eq 1 ?_
    simp (disch := omega) only [slicesConcatL11Eq, br_neg]
    exact (Ev.pure _).congr (by simp)
  | cons p r ih =>
    intro i out hd hi hs
    obtain ⟨h1, h2, h3⟩ := dropA hd
    simp only [total] at hs
    refine Ev.of_eq 1 ?_
    simp (disch := omega) only [slicesConcatL11Eq, br_pos, Int.toNat_natCast, h1, Option.bind_some, wr i (by omega)]
    exact (ih (i + 1) (out ++ p) h2 (by omega) (by rw [List.length_append]; omega)).congr (by simp)
theorem concatEv (l : List (List Int)) (hl : l.length ≤ 1000000) (ht : total l ≤ 1000000000) : Ev (fun n => slicesConcat m n l) l.flatten := by
  refine Ev.of_eq 1 ?_
  simp only [slicesConcatEq]
  refine Ev.bind (concatL3 l hl l 0 0 rfl (Nat.zero_le _) (by omega)) ?_
  refine Ev.bind (growEv (0 + total l) (by omega)) ?_
  refine Ev.bind (concatL11 l hl l 0 [] rfl (Nat.zero_le _) (by simp; omega)) ?_
  exact Ev.pure _

theorem ok_plain : ∀ (k : Nat) (l : List Int), l.length ≤ k → okBs l = true → okBs (plain l) = true ∧ (plain l).length ≤ l.length := by
  intro k
  induction k using Nat.strongRecOn with
  | _ k ih =>
    intro l hk hok
    match l with
    | [] => rw [plain_nil]; exact ⟨rfl, Nat.le_refl _⟩
    | [x] => rw [plain_one]; exact ⟨hok, Nat.le_refl _⟩
    | x :: y :: r =>
      simp only [List.length_cons] at hk
      obtain ⟨hx, hok1⟩ := ok_cons hok
      obtain ⟨hy, hok2⟩ := ok_cons hok1
      by_cases h : x = 125
      · subst h
        rw [plain_esc]
        obtain ⟨h1, h2⟩ := ih (k - 2) (by omega) r (by omega) hok2
        refine ⟨?_, by simp; omega⟩
        have hz : okB (x32 y) = true := by
          unfold x32
          rw [u8_eq, okB_iff]
          omega
        unfold okBs at h1 ⊢
        rw [List.all_cons, hz, h1]; rfl
      · rw [plain_ne x y r h]
        obtain ⟨h1, h2⟩ := ih (k - 1) (by omega) (y :: r) (by simp; omega) hok1
        refine ⟨?_, by simp at h2 ⊢; omega⟩
        have hz : okB x = true := okB_iff.2 hx
        unfold okBs at h1 ⊢
        rw [List.all_cons, hz, h1]; rfl

theorem ok_escs {l : List Int} (h : okBs l = true) : okBs (l.flatMap esc) = true := by
  induction l with
  | nil => rfl
  | cons x l ih =>
    obtain ⟨hx, hl⟩ := ok_cons h
    rw [List.flatMap_cons]
    refine ok_append ?_ (ih hl)
    unfold esc
    split
    · rfl
    · split
      · rfl
      · simp only [okBs, okB, List.all_cons, List.all_nil, Bool.and_true, decide_eq_true_eq]; exact hx
theorem ok_content (a : Msg) : okBs (content a) = true := by
  unfold content
  refine ok_append (ok_head0 a) ?_
  simp only [okBs, okB, List.all_cons, List.all_nil, Bool.and_true, Bool.and_eq_true, decide_eq_true_eq]
  omega
theorem ok_encode (a : Msg) : okBs (encode a) = true := by
  unfold encode
  split
  · unfold framed
    exact ok_append (ok_append rfl (ok_escs (ok_content a))) rfl
  · rfl
theorem message_nums (l : List Int) : (message l).1.2.2.length ≤ l.length := by
  match l with
  | [] => exact Nat.zero_le _
  | [_] => exact Nat.zero_le _
  | [_, _] => exact Nat.zero_le _
  | [_, _, _] => exact Nat.zero_le _
  | [_, _, _, _] => exact Nat.zero_le _
  | a :: b :: c :: d :: k :: r =>
    rw [message_cons]
    split
    · have := nums_length r.length r (Nat.le_refl _)
      simp only [List.length_cons]
      omega
    · simp

def okP (l : List (List Int)) : Prop := ∀ p ∈ l, okBs p = true ∧ p.length ≤ 100000

theorem piecesL2 (c0 c1 b0 : List Int) (l : List (List Int)) (hok : okP l) (hl : l.length ≤ 1000000) : ∀ (r : List (List Int)) (i : Nat) (out : List Msg), l.drop i = r → i ≤ l.length → out.length ≤ i →
    Ev (fun n => framingPiecesc1L2 m n c0 c1 ((((), ()), (l, ((i : Int), ()))), ((out, ()), ((b0, ()), ())))) ((), ((out ++ r.dropLast.filterMap piece, ()), ((b0, ()), ()))) := by
  intro r
  induction r with
  | nil =>
    intro i out hd hi ho
    have := List.drop_eq_nil_iff.1 hd
    refine Ev.of_eq 2 ?_
    have e1 := wr i (by omega)
    simp (disch := omega) only [framingPiecesc1L2Eq, e1, br_neg]
    exact (Ev.pure _).congr (by simp)
  | cons p r ih =>
    intro i out hd hi ho
    obtain ⟨h1, h2, h3⟩ := dropA hd
    have e1 := wr i (by omega)
    cases r with
    | nil =>
      have := List.drop_eq_nil_iff.1 h2
      refine Ev.of_eq 2 ?_
      simp (disch := omega) only [framingPiecesc1L2Eq, e1, br_neg]
      exact (Ev.pure _).congr (by simp)
    | cons q r =>
      obtain ⟨_, _, h5⟩ := dropA h2
      obtain ⟨hp, hpl⟩ := hok p (List.mem_of_getElem? h1)
      obtain ⟨hp1, hp2⟩ := ok_plain p.length p (Nat.le_refl _) hp
      have hmn := message_nums (plain p)
      refine Ev.of_eq 2 ?_
      simp (disch := omega) only [framingPiecesc1L2Eq, e1, br_pos, Int.toNat_natCast, h1, Option.bind_some]
      refine Ev.bind (plainEv p (by omega)) ?_
      refine Ev.bind (messageEv (plain p) hp1 (by omega)) ?_
      have hdl : (p :: q :: r).dropLast = p :: (q :: r).dropLast := rfl
      cases hm2 : (message (plain p)).2 with
      | false =>
        have hpc : piece p = none := by
          unfold piece
          simp only
          rw [if_neg (fun h => by rw [hm2] at h; cases h.1)]
        have key := (ih (i + 1) out h2 (by omega) (by omega)).shift 1
        refine (Ev.br_false rfl key).congr ?_
        rw [hdl, List.filterMap_cons, hpc]
      | true =>
        refine Ev.br_true rfl ?_
        refine Ev.bind (encodeEv _ _ _ (by omega)) ?_
        have hcat : ([[(126 : Int)], p, [(126 : Int)]] : List (List Int)).flatten = [126] ++ p ++ [126] := by simp
        have hpc : piece p = if encode (message (plain p)).1 = [126] ++ p ++ [126] then some (message (plain p)).1 else none := by
          unfold piece
          simp only [hm2, true_and]
        refine Ev.bind (concatEv [[126], p, [126]] (by simp) (by simp [total]; omega)) ?_
        rw [hcat]
        refine Ev.bind (equalEv _ _ (ok_encode _) (ok_append (ok_append rfl hp) rfl)) ?_
        by_cases he : encode (message (plain p)).1 = [126] ++ p ++ [126]
        · have he' : encode ((message (plain p)).1.1, (message (plain p)).1.2.1, (message (plain p)).1.2.2) = [126] ++ p ++ [126] := he
          refine Ev.br_true (by rw [decide_eq_true_eq]; exact he') ?_
          have hb : (out.length + [((message (plain p)).1.1, ((message (plain p)).1.2.1, (message (plain p)).1.2.2))].length) * 40 ≤ 140737488355328 := by simp only [List.length_cons, List.length_nil]; omega
          simp only [br_pos hb]
          have key := (ih (i + 1) (out ++ [(message (plain p)).1]) h2 (by omega) (by simp; omega)).shift 1
          refine key.congr ?_
          rw [hdl, List.filterMap_cons, hpc, if_pos he]
          simp
        · have he' : ¬ encode ((message (plain p)).1.1, (message (plain p)).1.2.1, (message (plain p)).1.2.2) = [126] ++ p ++ [126] := he
          refine Ev.br_false (by rw [decide_eq_false_iff_not]; exact he') ?_
          have key := (ih (i + 1) out h2 (by omega) (by omega)).shift 1
          refine key.congr ?_
          rw [hdl, List.filterMap_cons, hpc, if_neg he]

/-! ### The last mark -/
theorem rest_none {l : List Int} (h : 126 ∉ l) : rest l = [] := by
  induction l with
  | nil => rfl
  | cons x l ih =>
    simp only [List.mem_cons, not_or] at h
    unfold rest
    rw [if_neg h.2, if_neg (fun e => h.1 e.symm)]
theorem rest_last : ∀ (u v : List Int), 126 ∉ v → rest (u ++ 126 :: v) = 126 :: v := by
  intro u
  induction u with
  | nil => intro v h; show rest (126 :: v) = _; unfold rest; rw [if_neg h, if_pos rfl]
  | cons x u ih =>
    intro v h
    show rest (x :: (u ++ 126 :: v)) = _
    unfold rest
    rw [if_pos (by simp), ih v h]

theorem lastL2 (l : List Int) (hl : l.length ≤ 1000000) : ∀ (k : Nat), k ≤ l.length → 126 ∉ l.drop k →
    ∃ y, Ev (fun n => bytealgLastIndexByteL2 m n ((l, ((126 : Int), ((((k : Int) - 1) : Int), ()))), ())) y ∧ ((126 ∉ l ∧ y = .inl ((), ())) ∨ (∃ j : Nat, j < l.length ∧ l = l.take j ++ 126 :: l.drop (j + 1) ∧ 126 ∉ l.drop (j + 1) ∧ y = .inr ((((j : Int), ()), ())))) := by
  intro k
  induction k with
  | zero =>
    intro _ h
    refine ⟨_, Ev.of_eq 1 ?_, .inl ⟨by simpa using h, rfl⟩⟩
    simp (disch := omega) only [bytealgLastIndexByteL2Eq, br_neg]
    exact Ev.pure _
  | succ k ih =>
    intro hk h
    have e0 : (((k + 1 : Nat) : Int) - 1) = (k : Int) := by omega
    have hget : l[k]? = some l[k] := List.getElem?_eq_getElem (by omega)
    have e1 : IntKind.i64.wrap ((k : Int) - 1) = (k : Int) - 1 := w64 (by omega) (by omega)
    by_cases hx : l[k] = 126
    · refine ⟨.inr ((((k : Int), ()), ())), Ev.of_eq 1 ?_, .inr ⟨k, by omega, ?_, h, rfl⟩⟩
      · simp (disch := omega) only [e0, bytealgLastIndexByteL2Eq, br_pos, Int.toNat_natCast, hget, Option.bind_some, hx, br_T]
        exact Ev.pure _
      · have := List.take_append_drop k l
        rw [List.drop_eq_getElem_cons (by omega), hx] at this
        exact this.symm
    · obtain ⟨y, k1, k2⟩ := ih (by omega) (by
        rw [List.drop_eq_getElem_cons (by omega), List.mem_cons, not_or]
        exact ⟨fun e => hx e.symm, h⟩)
      refine ⟨y, Ev.of_eq 1 ?_, k2⟩
      simp (disch := omega) only [e0, bytealgLastIndexByteL2Eq, br_pos, Int.toNat_natCast, hget, Option.bind_some, br_neg hx, e1]
      exact k1

theorem splitB_len {y : Int} : ∀ {l : List Int}, (splitB y l).length ≤ l.length + 1 ∧ ∀ p ∈ splitB y l, p.length ≤ l.length := by
  intro l
  induction l with
  | nil => exact ⟨Nat.le_refl _, fun p hp => by simp [splitB] at hp; subst hp; exact Nat.le_refl _⟩
  | cons x l ih =>
    obtain ⟨h1, h2⟩ := ih
    unfold splitB
    split
    · refine ⟨by simp; omega, fun p hp => ?_⟩
      rcases List.mem_cons.1 hp with rfl | hp
      · exact Nat.zero_le _
      · have := h2 p hp; simp; omega
    · split
      · rename_i q r e
        rw [e] at h1 h2
        refine ⟨by simp at h1 ⊢; omega, fun p hp => ?_⟩
        rcases List.mem_cons.1 hp with rfl | hp
        · have := h2 q (by simp); simp; omega
        · have := h2 p (by simp [hp]); simp; omega
      · exact ⟨by simp, fun p hp => by simp at hp; subst hp; simp⟩
theorem splitB_okB {y : Int} : ∀ {l : List Int}, okBs l = true → ∀ p ∈ splitB y l, okBs p = true := by
  intro l
  induction l with
  | nil => intro _ p hp; simp [splitB] at hp; subst hp; rfl
  | cons x l ih =>
    intro h p hp
    simp only [okBs, List.all_cons, Bool.and_eq_true] at h
    unfold splitB at hp
    split at hp
    · rcases List.mem_cons.1 hp with rfl | hp
      · rfl
      · exact ih h.2 p hp
    · split at hp
      · rename_i q r e
        rcases List.mem_cons.1 hp with rfl | hp
        · have := ih h.2 q (by rw [e]; simp)
          simp only [okBs, List.all_cons, Bool.and_eq_true]
          exact ⟨h.1, this⟩
        · exact ih h.2 p (by rw [e]; simp [hp])
      · simp at hp; subst hp; simp [okBs, h.1]

theorem decodeEv (l : List Int) (hok : okBs l = true) (hl : l.length ≤ 100000) : Ev (fun n => framingDecode m n l) (msgs l, rest l) := by
  obtain ⟨s1, s2⟩ := splitB_len (y := 126) (l := l)
  have hP : okP (splitB 126 l) := fun p hp => ⟨splitB_okB hok p hp, by have := s2 p hp; omega⟩
  obtain ⟨y, k1, k2⟩ := lastL2 (m := m) l (by omega) l.length (Nat.le_refl _) (by simp)
  have e1 : IntKind.i64.wrap ((l.length : Int) - 1) = (l.length : Int) - 1 := w64 (by omega) (by omega)
  have hlast : Ev (fun n => bytesLastIndexByte m (n + 1) l 126) (match y with | .inl _ => (-1 : Int) | .inr z => z.1.1) := by
    refine Ev.shift (f := fun n => bytesLastIndexByte m n l 126) ?_ 1
    refine Ev.of_eq 2 ?_
    simp only [bytesLastIndexByteEq, bytealgLastIndexByteEq, e1]
    refine Ev.bind (Ev.bind k1 ?_) (Ev.pure _)
    cases y <;> exact Ev.pure _
  refine Ev.of_eq 2 ?_
  simp only [framingDecodeEq]
  refine Ev.bind (splitEv l hok (by omega)) ?_
  refine Ev.bind (piecesL2 l l l (splitB 126 l) hP (by omega) ((splitB 126 l).drop 1) 1 [] rfl ?_ (by simp)) ?_
  · cases h : splitB 126 l with
    | nil =>
      exfalso
      cases l with
      | nil => simp [splitB] at h
      | cons x l =>
        unfold splitB at h
        split at h
        · cases h
        · split at h <;> cases h
    | cons p r => simp
  refine Ev.bind hlast ?_
  have hmsgs : [] ++ ((splitB 126 l).drop 1).dropLast.filterMap piece = msgs l := rfl
  rcases k2 with ⟨hn, rfl⟩ | ⟨j, hj, hlj, hnj, rfl⟩
  · simp (disch := omega) only [br_pos]
    exact (Ev.pure _).congr (by rw [rest_none hn]; rfl)
  · have hdrop : (l.take ((l.length : Int)).toNat).drop ((j : Int)).toNat = l.drop j := by rw [Int.toNat_natCast, Int.toNat_natCast, List.take_length]
    have hr : rest l = l.drop j := by
      have h2 : l.drop j = 126 :: l.drop (j + 1) := by
        have h3 := congrArg (List.drop j) hlj
        rw [List.drop_append_of_le_length (by simp; omega)] at h3
        have h4 : (l.take j).drop j = [] := by rw [List.drop_eq_nil_iff]; simp; omega
        rw [h4] at h3
        exact h3
      rw [h2, ← rest_last (l.take j) (l.drop (j + 1)) hnj, ← hlj]
    have hc : (0 ≤ (j : Int) ∧ (j : Int) ≤ (l.length : Int) ∧ (l.length : Int) ≤ (l.length : Int)) := by omega
    simp (disch := omega) only [br_neg, br_pos hc, hdrop]
    refine Ev.bind (Ev.shift (cloneEv (l.drop j) (by simp; omega)) 1) ?_
    exact (Ev.pure _).congr (by rw [hr]; rfl)
end Go.Fb
