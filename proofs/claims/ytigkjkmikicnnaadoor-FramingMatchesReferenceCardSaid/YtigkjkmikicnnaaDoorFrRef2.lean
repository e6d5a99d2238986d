import Derived.Test.YtigkjkmikicnnaaDoorFrRef
set_option linter.unusedVariables false
set_option linter.unusedSimpArgs false
/-
  FRAMING: the reference's decoding, with enough fuel; P32.1.
-/
namespace Go.Fr
open Go Go.Am Go.Proofs
variable {m : Int}

theorem nbr_T {R : Type} {x y : Option R} : br (!decide True) x y = y := rfl
def unread : List Int → Option (List Int)
  | [] => some []
  | [x] => if x = 125 then none else some [x]
  | x :: y :: r => if x = 125 then (if y = 93 ∨ y = 94 then (unread r).map ((y + 32) :: ·) else none) else (unread (y :: r)).map (x :: ·)
theorem unread_ne {x : Int} (h : x ≠ 125) (r : List Int) : unread (x :: r) = (unread r).map (x :: ·) := by
  cases r with
  | nil => simp [unread, h]
  | cons y r => rw [unread, if_neg h]
theorem unread_esc (y : Int) (r : List Int) (h : y = 93 ∨ y = 94) : unread (125 :: y :: r) = (unread r).map ((y + 32) :: ·) := by
  rw [unread, if_pos rfl, if_pos h]
theorem unread_escs (c : List Int) : unread (c.flatMap esc) = some c := by
  induction c with
  | nil => rfl
  | cons x c ih =>
    rw [List.flatMap_cons]
    unfold esc
    by_cases h1 : x = 126
    · rw [if_pos h1]
      show unread (125 :: 94 :: c.flatMap esc) = _
      rw [unread_esc _ _ (.inr rfl), ih, h1]
      rfl
    · rw [if_neg h1]
      by_cases h2 : x = 125
      · rw [if_pos h2]
        show unread (125 :: 93 :: c.flatMap esc) = _
        rw [unread_esc _ _ (.inl rfl), ih, h2]
        rfl
      · rw [if_neg h2]
        show unread (x :: c.flatMap esc) = _
        rw [unread_ne h2, ih]
        rfl
theorem unread_inv : ∀ (k : Nat) (p c : List Int), p.length ≤ k → (126 : Int) ∉ p → unread p = some c → p = c.flatMap esc ∧ c.length ≤ p.length := by
  intro k
  induction k using Nat.strongRecOn with
  | _ k ih =>
    intro p c hk hp h
    match p with
    | [] => rw [unread] at h; cases h; exact ⟨rfl, Nat.le_refl _⟩
    | [x] =>
      rw [unread] at h
      split at h
      · cases h
      · rename_i hx
        cases h
        have hx6 : ¬ x = 126 := fun e => hp (by simp [e])
        refine ⟨?_, Nat.le_refl _⟩
        simp [esc, hx, hx6]
    | x :: y :: r =>
      simp only [List.length_cons] at hk
      simp only [List.mem_cons, not_or] at hp
      rw [unread] at h
      split at h
      · rename_i hx
        split at h
        · rename_i hy
          rw [Option.map_eq_some_iff] at h
          obtain ⟨c', h1, rfl⟩ := h
          obtain ⟨h2, h3⟩ := ih (k - 2) (by omega) r c' (by omega) hp.2.2 h1
          refine ⟨?_, by simp; omega⟩
          rw [List.flatMap_cons, ← h2, hx]
          rcases hy with rfl | rfl <;> rfl
        · cases h
      · rename_i hx
        rw [Option.map_eq_some_iff] at h
        obtain ⟨c', h1, rfl⟩ := h
        obtain ⟨h2, h3⟩ := ih (k - 1) (by omega) (y :: r) c' (by simp; omega) (by simp only [List.mem_cons, not_or]; exact hp.2) h1
        refine ⟨?_, by simp at h3 ⊢; omega⟩
        rw [List.flatMap_cons, ← h2]
        have : esc x = [x] := by unfold esc; rw [if_neg (fun e => hp.1 e.symm), if_neg hx]
        rw [this]
        rfl

theorem okBs_get {l : List Int} (h : okBs l = true) {i : Nat} {x : Int} (hx : l[i]? = some x) : 0 ≤ x ∧ x < 256 := by
  unfold okBs at h
  rw [List.all_eq_true] at h
  exact okB_iff.1 (h x (List.mem_of_getElem? hx))
abbrev R0 : (Int × (Int × (List Int × Unit))) × Unit := ((0, (0, ([], ()))), ())
theorem readL3 (l : List Int) (hl : l.length ≤ 100000) (hok : okBs l = true) : ∀ (k i : Nat) (out : List Int), l.length ≤ i + k → i ≤ l.length → out.length ≤ i →
    Ev (fun n => r32ReadL3 m n ((l, ((), (out, ((i : Int), ())))), R0)) (match unread (l.drop i) with
      | some c => .inl (((), (out ++ c, ())), R0)
      | none => .inr (((), (false, ())), R0)) := by
  intro k
  induction k using Nat.strongRecOn with
  | _ k ih =>
    intro i out hk hi ho
    match hd : l.drop i with
    | [] =>
      have := drop_nil hd
      refine Ev.of_eq 1 ?_
      simp (disch := omega) only [r32ReadL3Eq, br_neg]
      exact (Ev.pure _).congr (by rw [unread]; simp)
    | x :: r =>
      obtain ⟨h1, h2, h3⟩ := drop_get hd
      have hx0 := okBs_get hok h1
      have e1 : IntKind.i64.wrap ((i : Int) + 1) = ((i + 1 : Nat) : Int) := wr i (by omega)
      have e2 : IntKind.i64.wrap (((i + 1 : Nat) : Int) + 1) = ((i + 1 + 1 : Nat) : Int) := wr (i + 1) (by omega)
      have q1 : ∀ z : Int, (out.length + [z].length) * 1 ≤ 140737488355328 := fun z => by simp only [List.length_cons, List.length_nil]; omega
      by_cases hx : x = 125
      · subst hx
        cases r with
        | nil =>
          have h4 := drop_nil h2
          have c1 : ((i + 1 : Nat) : Int) = (l.length : Int) := by omega
          refine Ev.of_eq 1 ?_
          simp (disch := omega) only [r32ReadL3Eq, br_pos, Int.toNat_natCast, h1, Option.bind_some, nbr_pos, nbr_T, e1]
          exact (Ev.pure _).congr (by rw [unread, if_pos rfl])
        | cons y r =>
          obtain ⟨h4, h5, h6⟩ := drop_get h2
          have hy0 := okBs_get hok h4
          have c1 : ¬ ((i + 1 : Nat) : Int) = (l.length : Int) := by omega
          by_cases hy : y = 93 ∨ y = 94
          · have key := ih (k - 2) (by omega) (i + 1 + 1) (out ++ [y + 32]) (by omega) (by omega) (by simp; omega)
            rw [h5] at key
            have w : IntKind.u8.wrap (y + 32) = y + 32 := by rw [u8_eq]; omega
            have goal : Ev (fun n => r32ReadL3 m n ((l, ((), (out ++ [y + 32], (((i + 1 + 1 : Nat) : Int), ())))), R0)) (match unread (125 :: y :: r) with
                | some c => .inl (((), (out ++ c, ())), R0)
                | none => .inr (((), (false, ())), R0)) := by
              refine key.congr ?_
              rw [unread_esc y r hy]
              cases unread r with
              | none => rfl
              | some c => simp
            refine Ev.of_eq 1 ?_
            by_cases hy1 : y = 93
            · simp (disch := omega) only [r32ReadL3Eq, br_pos, br_neg c1, Int.toNat_natCast, h1, h4, Option.bind_some, nbr_pos hy1, nbr_pos, nbr_T, e1, e2, w, br_pos (q1 (y + 32))]
              exact goal
            · have hy2 : y = 94 := by
                rcases hy with h | h
                · exact absurd h hy1
                · exact h
              simp (disch := omega) only [r32ReadL3Eq, br_pos, br_neg c1, Int.toNat_natCast, h1, h4, Option.bind_some, nbr_neg hy1, nbr_pos hy2, nbr_pos, nbr_T, e1, e2, w, br_pos (q1 (y + 32))]
              exact goal
          · have hy1 : ¬ y = 93 := fun h => hy (.inl h)
            have hy2 : ¬ y = 94 := fun h => hy (.inr h)
            refine Ev.of_eq 1 ?_
            simp (disch := omega) only [r32ReadL3Eq, br_pos, br_neg c1, Int.toNat_natCast, h1, h4, Option.bind_some, nbr_neg hy1, nbr_neg hy2, nbr_pos, nbr_T, e1]
            exact (Ev.pure _).congr (by rw [unread, if_pos rfl, if_neg hy])
      · have key := ih (k - 1) (by omega) (i + 1) (out ++ [x]) (by omega) (by omega) (by simp; omega)
        rw [h2] at key
        refine Ev.of_eq 1 ?_
        simp (disch := omega) only [r32ReadL3Eq, br_pos, Int.toNat_natCast, h1, Option.bind_some, nbr_neg hx, br_pos (q1 x), e1]
        refine key.congr ?_
        rw [unread_ne hx]
        cases unread r with
        | none => rfl
        | some c => simp

theorem numberEv {a b c d : Int} (ha : 0 ≤ a ∧ a < 256) (hb : 0 ≤ b ∧ b < 256) (hc : 0 ≤ c ∧ c < 256) (hd : 0 ≤ d ∧ d < 256) : Ev (fun n => r32Number m n [a, b, c, d]) (num a b c d) := by
  refine Ev.of_eq 1 ?_
  obtain ⟨g0, g1, g2, g3⟩ := get4 (a := a) (b := b) (c := c) (d := d) (r := [])
  have w0 : IntKind.i64.wrap a = a := w64 (by omega) (by omega)
  have w1 : IntKind.i64.wrap b = b := w64 (by omega) (by omega)
  have w2 : IntKind.i64.wrap c = c := w64 (by omega) (by omega)
  have w3 : IntKind.i64.wrap d = d := w64 (by omega) (by omega)
  have w4 : IntKind.i64.wrap (256 * b) = 256 * b := w64 (by omega) (by omega)
  have w5 : IntKind.i64.wrap (65536 * c) = 65536 * c := w64 (by omega) (by omega)
  have w6 : IntKind.i64.wrap (16777216 * d) = 16777216 * d := w64 (by omega) (by omega)
  have w7 : IntKind.i64.wrap (a + 256 * b) = a + 256 * b := w64 (by omega) (by omega)
  have w8 : IntKind.i64.wrap (a + 256 * b + 65536 * c) = a + 256 * b + 65536 * c := w64 (by omega) (by omega)
  have w9 : IntKind.i64.wrap (a + 256 * b + 65536 * c + 16777216 * d) = a + 256 * b + 65536 * c + 16777216 * d := w64 (by omega) (by omega)
  have w10 : IntKind.i64.wrap (a + 256 * b + 65536 * c + 16777216 * d - 4294967296) = a + 256 * b + 65536 * c + 16777216 * d - 4294967296 := w64 (by omega) (by omega)
  simp only [r32NumberEq, g0, g1, g2, g3, Option.bind_some, w0, w1, w2, w3, w4, w5, w6, w7, w8, w9]
  by_cases h : 2147483647 < a + 256 * b + 65536 * c + 16777216 * d
  · simp only [br_pos h, Option.bind_some, w10]
    exact (Ev.pure _).congr (by unfold num; omega)
  · simp only [br_neg h, Option.bind_some]
    exact (Ev.pure _).congr (by unfold num; omega)

theorem readL15 (s0 k0 seq kind : Int) (l : List Int) (hl : l.length ≤ 100000) (nm0 : List Int) : ∀ (k i : Nat) (out : List Int), (l.drop i).length ≤ k → (l.drop i).length % 4 = 2 → okBs (l.drop i) = true → i ≤ l.length → out.length ≤ i →
    Ev (fun n => r32ReadL15 m n (((), (l, ((), ((i : Int), ())))), ((s0, (k0, (nm0, ()))), ((seq, (kind, (out, ()))), ())))) (((), (l, ((), ()))), ((s0, (k0, (nm0, ()))), ((seq, (kind, (out ++ nums (l.drop i), ()))), ()))) := by
  intro k
  induction k using Nat.strongRecOn with
  | _ k ih =>
    intro i out hk h4 hok hi ho
    have hlen : (l.drop i).length = l.length - i := List.length_drop
    have w2 : IntKind.i64.wrap ((i : Int) + 2) = ((i + 2 : Nat) : Int) := by rw [w64 (by omega) (by omega)]; omega
    have w4 : IntKind.i64.wrap ((i : Int) + 4) = ((i + 4 : Nat) : Int) := by rw [w64 (by omega) (by omega)]; omega
    by_cases hs : (l.drop i).length ≤ 2
    · refine Ev.of_eq 1 ?_
      simp (disch := omega) only [r32ReadL15Eq, w2, br_neg]
      exact (Ev.pure _).congr (by rw [nums_short hs, List.append_nil])
    · match hd : l.drop i with
      | [] => rw [hd] at hs; simp at hs
      | [_] => rw [hd] at hs; simp at hs
      | [_, _] => rw [hd] at hs; simp at hs
      | [_, _, _] => rw [hd] at h4; simp at h4
      | a :: b :: c :: d :: r =>
        rw [hd] at hok hlen
        obtain ⟨ha, hok⟩ := ok_cons hok
        obtain ⟨hb, hok⟩ := ok_cons hok
        obtain ⟨hc, hok⟩ := ok_cons hok
        obtain ⟨hd', hok⟩ := ok_cons hok
        have hdr : l.drop (i + 4) = r := by rw [← List.drop_drop, hd]; rfl
        rw [hd] at hk h4 hs
        simp only [List.length_cons] at hk h4 hs hlen
        have c1 : 0 ≤ (i : Int) ∧ (i : Int) ≤ ((i + 4 : Nat) : Int) ∧ ((i + 4 : Nat) : Int) ≤ (l.length : Int) := by omega
        have s1 : (l.take (((i + 4 : Nat) : Int)).toNat).drop ((i : Int)).toNat = [a, b, c, d] := by
          rw [Int.toNat_natCast, Int.toNat_natCast, ← List.take_drop, hd]; rfl
        have q1 : (out.length + [num a b c d].length) * 8 ≤ 140737488355328 := by simp only [List.length_cons, List.length_nil]; omega
        refine Ev.of_eq 1 ?_
        simp (disch := omega) only [r32ReadL15Eq, w2, w4, br_pos c1, br_pos, s1]
        refine Ev.bind (numberEv ha hb hc hd') ?_
        have key := ih (k - 4) (by omega) (i + 4) (out ++ [num a b c d]) (by rw [hdr]; omega) (by rw [hdr]; omega) (by rw [hdr]; exact hok) (by omega) (by simp; omega)
        rw [hdr] at key
        refine key.congr ?_
        have hn : nums (a :: b :: c :: d :: r) = num a b c d :: nums r := by
          rw [nums]; rw [if_pos (by omega)]
        rw [hn]
        simp

theorem four_num {a b c d : Int} (ha : 0 ≤ a ∧ a < 256) (hb : 0 ≤ b ∧ b < 256) (hc : 0 ≤ c ∧ c < 256) (hd : 0 ≤ d ∧ d < 256) : four (num a b c d) = [a, b, c, d] := by
  unfold four num
  congr 1
  · omega
  · congr 1
    · omega
    · congr 1
      · omega
      · congr 1
        omega
theorem fours_nums : ∀ (k : Nat) (r : List Int), r.length ≤ k → r.length % 4 = 2 → okBs r = true → (nums r).flatMap four = r.take (r.length - 2) := by
  intro k
  induction k using Nat.strongRecOn with
  | _ k ih =>
    intro r hk h4 hok
    match r with
    | [] => simp at h4
    | [_] => simp at h4
    | [_, _] => rfl
    | [_, _, _] => simp at h4
    | a :: b :: c :: d :: r =>
      obtain ⟨ha, hok⟩ := ok_cons hok
      obtain ⟨hb, hok⟩ := ok_cons hok
      obtain ⟨hc, hok⟩ := ok_cons hok
      obtain ⟨hd, hok⟩ := ok_cons hok
      simp only [List.length_cons] at hk h4
      have hn : nums (a :: b :: c :: d :: r) = num a b c d :: nums r := by
        rw [nums]; rw [if_pos (by omega)]
      rw [hn, List.flatMap_cons, four_num ha hb hc hd, ih (k - 4) (by omega) r (by omega) (by omega) hok]
      have : (a :: b :: c :: d :: r).length - 2 = (r.length - 2) + 1 + 1 + 1 + 1 := by simp only [List.length_cons]; omega
      rw [this]
      rfl

theorem read_body (b : List Int) (h7 : ¬ b.length < 7) (h4 : b.length % 4 = 3) (hok : okBs b = true) : ∃ (x : Msg) (s t : Int), b = head0 x ++ [s, t] ∧ (0 ≤ s ∧ s < 256) ∧ (0 ≤ t ∧ t < 256) ∧ message b = (x, true) ∧
    ∃ a0 a1 a2 a3 k r, b = a0 :: a1 :: a2 :: a3 :: k :: r ∧ x = (num a0 a1 a2 a3, (k, nums r)) := by
  match b with
  | [] => simp at h7
  | [_] => simp at h7
  | [_, _] => simp at h7
  | [_, _, _] => simp at h7
  | [_, _, _, _] => simp at h7
  | a0 :: a1 :: a2 :: a3 :: k :: r =>
    simp only [List.length_cons] at h7 h4
    obtain ⟨h0, hok⟩ := ok_cons hok
    obtain ⟨h1, hok⟩ := ok_cons hok
    obtain ⟨h2, hok⟩ := ok_cons hok
    obtain ⟨h3, hok⟩ := ok_cons hok
    obtain ⟨hk, hok⟩ := ok_cons hok
    have hr := fours_nums r.length r (Nat.le_refl _) (by omega) hok
    have hsplit : r = r.take (r.length - 2) ++ r.drop (r.length - 2) := (List.take_append_drop _ _).symm
    have hd2 : (r.drop (r.length - 2)).length = 2 := by rw [List.length_drop]; omega
    match hq : r.drop (r.length - 2), hd2 with
    | [s, t], _ =>
      have hst : okBs [s, t] = true := by rw [← hq]; exact ok_drop hok _
      obtain ⟨hs, hst⟩ := ok_cons hst
      obtain ⟨ht, _⟩ := ok_cons hst
      refine ⟨(num a0 a1 a2 a3, (k, nums r)), s, t, ?_, hs, ht, ?_, a0, a1, a2, a3, k, r, rfl, rfl⟩
      · rw [hq] at hsplit
        unfold head0
        simp only
        rw [four_num h0 h1 h2 h3, hr]
        have hkk : k % 256 = k := by omega
        rw [hkk]
        have := congrArg (fun z => a0 :: a1 :: a2 :: a3 :: k :: z) hsplit
        simpa using this
      · rw [message_cons, if_pos (by omega)]

theorem readEv (p : List Int) (hok : okBs p = true) (hl : p.length ≤ 1000) (hf : (126 : Int) ∉ p) :
    ∃ x : Msg × Bool, Ev (fun n => r32Read m n p) x ∧ piece p = (if x.2 = true then some x.1 else none) := by
  have h3 := readL3 (m := m) p (by omega) hok p.length 0 [] (by omega) (Nat.zero_le _) (Nat.le_refl _)
  rw [List.drop_zero] at h3
  cases hu : unread p with
  | none =>
    rw [hu] at h3
    refine ⟨((0, (0, [])), false), Ev.of_eq 1 ?_, ?_⟩
    · simp only [r32ReadEq]
      exact Ev.bind h3 (Ev.pure _)
    · rw [if_neg (by simp)]
      cases hp : piece p with
      | none => rfl
      | some a =>
        obtain ⟨_, rfl⟩ := piece_some hp
        rw [show unread (body a) = some (content a) from unread_escs _] at hu
        cases hu
  | some b =>
    rw [hu] at h3
    obtain ⟨hpb, hbl⟩ := unread_inv p.length p b (Nat.le_refl _) hf hu
    have hob : okBs b = true := by
      unfold okBs
      rw [List.all_eq_true]
      intro z hz
      by_cases h6 : z = 126
      · rw [h6]; rfl
      · by_cases h5 : z = 125
        · rw [h5]; rfl
        · have : z ∈ p := by
            rw [hpb, List.mem_flatMap]
            exact ⟨z, hz, by unfold esc; rw [if_neg h6, if_neg h5]; simp⟩
          unfold okBs at hok
          rw [List.all_eq_true] at hok
          exact hok z this
    have none_of : (∀ a, valid a = true → b ≠ content a) → piece p = none := fun h => by
      cases hp : piece p with
      | none => rfl
      | some a =>
        obtain ⟨hv, hp2⟩ := piece_some hp
        rw [hp2, show unread (body a) = some (content a) from unread_escs _] at hu
        cases hu
        exact absurd rfl (h a hv)
    by_cases h7 : b.length < 7
    · refine ⟨((0, (0, [])), false), Ev.of_eq 1 ?_, ?_⟩
      · simp only [r32ReadEq]
        refine Ev.bind h3 ?_
        simp (disch := omega) only [List.nil_append, br_pos]
        exact Ev.pure _
      · rw [if_neg (by simp), none_of]
        rintro a _ rfl
        rw [content_length] at h7
        omega
    · have tm : ((b.length : Int)).tmod 4 = ((b.length % 4 : Nat) : Int) := by rw [Int.tmod_eq_emod_of_nonneg (by omega)]; omega
      by_cases h4 : b.length % 4 = 3
      · obtain ⟨x, s, t, hb, hs, ht, hmb, a0, a1, a2, a3, k, r, hbr, hx⟩ := read_body b h7 h4 hob
        have ob := hob
        rw [hbr] at ob
        obtain ⟨o0, ob⟩ := ok_cons ob
        obtain ⟨o1, ob⟩ := ok_cons ob
        obtain ⟨o2, ob⟩ := ok_cons ob
        obtain ⟨o3, ob⟩ := ok_cons ob
        obtain ⟨ok', ob⟩ := ok_cons ob
        have hrl : r.length + 5 = b.length := by rw [hbr]; rfl
        have hnl := nums_length r.length r (Nat.le_refl _)
        have hhl : (head0 x).length = b.length - 2 := by rw [hb]; simp
        have hoh := ok_head0 x
        have hcr := crc_lt hoh
        have w2 : IntKind.i64.wrap ((b.length : Int) - 2) = ((b.length - 2 : Nat) : Int) := by rw [w64 (by omega) (by omega)]; omega
        have w1 : IntKind.i64.wrap ((b.length : Int) - 1) = ((b.length - 1 : Nat) : Int) := by rw [w64 (by omega) (by omega)]; omega
        have c4 : 0 ≤ (0 : Int) ∧ (0 : Int) ≤ (4 : Int) ∧ (4 : Int) ≤ (b.length : Int) := by omega
        have s4 : (b.take ((4 : Int)).toNat).drop ((0 : Int)).toNat = [a0, a1, a2, a3] := by rw [hbr]; rfl
        have g4 : b[(4 : Int).toNat]? = some k := by rw [hbr]; rfl
        have wk : IntKind.i64.wrap k = k := w64 (by omega) (by omega)
        have d5 : b.drop 5 = r := by rw [hbr]; rfl
        have h15 := readL15 (m := m) 0 0 (num a0 a1 a2 a3) k b (by omega) [] r.length 5 [] (by rw [d5]; exact Nat.le_refl _) (by rw [d5]; omega) (by rw [d5]; exact ob) (by omega) (by simp)
        rw [d5, List.nil_append] at h15
        have c2 : 0 ≤ (0 : Int) ∧ (0 : Int) ≤ ((b.length - 2 : Nat) : Int) ∧ ((b.length - 2 : Nat) : Int) ≤ (b.length : Int) := by omega
        have s2 : (b.take (((b.length - 2 : Nat) : Int)).toNat).drop ((0 : Int)).toNat = head0 x := by
          rw [Int.toNat_natCast, ← hhl]
          have : b.take (head0 x).length = head0 x := by rw [hb]; exact List.take_left
          rw [this]; rfl
        have gs : b[b.length - 2]? = some s := by
          rw [← hhl, hb, List.getElem?_append_right (Nat.le_refl _), Nat.sub_self]; rfl
        have gt : b[b.length - 1]? = some t := by
          have : b.length - 1 = (head0 x).length + 1 := by omega
          rw [this, hb, List.getElem?_append_right (by omega), Nat.add_sub_cancel_left]; rfl
        have ws : IntKind.i64.wrap s = s := w64 (by omega) (by omega)
        have wt : IntKind.i64.wrap t = t := w64 (by omega) (by omega)
        have hcx : b = content x ↔ (s = (crc (head0 x) : Int) / 256 ∧ t = (crc (head0 x) : Int) % 256) := by
          unfold content
          rw [hb]
          constructor
          · intro h
            have := List.append_cancel_left h
            simp only [List.cons.injEq, and_true] at this
            obtain ⟨e1, e2⟩ := this
            refine ⟨?_, e2⟩
            rw [e1]; omega
          · rintro ⟨e1, e2⟩
            have : (crc (head0 x) : Int) / 256 % 256 = (crc (head0 x) : Int) / 256 := by omega
            rw [this, ← e1, ← e2]
        have hpiece : piece p = if valid x = true ∧ b = content x then some x else none := by
          split
          · rename_i h
            obtain ⟨hv, hbc⟩ := h
            rw [hpb, hbc]
            exact piece_body hv
          · rename_i h
            refine none_of fun a hv hba => h ?_
            rw [hba, message_content hv] at hmb
            cases hmb
            exact ⟨hv, hba⟩
        have d1 : ((crc (head0 x) : Nat) : Int).tdiv 256 = (crc (head0 x) : Int) / 256 := Int.tdiv_eq_ediv_of_nonneg (by omega)
        have d2 : ((crc (head0 x) : Nat) : Int).tmod 256 = (crc (head0 x) : Int) % 256 := Int.tmod_eq_emod_of_nonneg (by omega)
        have wd : IntKind.i64.wrap ((crc (head0 x) : Int) / 256) = (crc (head0 x) : Int) / 256 := w64 (by omega) (by omega)
        have h47 : ¬ (b.length : Int) < 7 := by omega
        have h43 : ((b.length % 4 : Nat) : Int) = 3 := by omega
        have pre : ∀ (y : Msg × Bool), Ev (fun n => (r32May m n x.1 x.2.1 x.2.2).bind fun x128 => (br (decide (0 ≤ (0 : Int) ∧ (0 : Int) ≤ (IntKind.i64.wrap ((b.length : Int) - (2 : Int))) ∧ (IntKind.i64.wrap ((b.length : Int) - (2 : Int))) ≤ (b.length : Int))) ((r32Sum m n ((b.take ((IntKind.i64.wrap ((b.length : Int) - (2 : Int)))).toNat).drop ((0 : Int)).toNat)).bind fun x138 => (br x128 (br (decide (0 ≤ (IntKind.i64.wrap ((b.length : Int) - (2 : Int))))) ((b[((IntKind.i64.wrap ((b.length : Int) - (2 : Int)))).toNat]?).bind fun e139 => (br (decide ((IntKind.i64.wrap e139) = (IntKind.i64.wrap ((x138).tdiv (256 : Int))))) (br (decide (0 ≤ (IntKind.i64.wrap ((b.length : Int) - (1 : Int))))) ((b[((IntKind.i64.wrap ((b.length : Int) - (1 : Int)))).toNat]?).bind fun e140 => some ((x.1, (x.2.1, x.2.2)), (decide ((IntKind.i64.wrap e140) = ((x138).tmod (256 : Int)))))) none) (some ((x.1, (x.2.1, x.2.2)), false)))) none) (some ((x.1, (x.2.1, x.2.2)), false)))) none)) y → Ev (fun n => r32Read m n p) y := by
          intro y hy
          refine Ev.of_eq 1 ?_
          simp only [r32ReadEq]
          refine Ev.bind h3 ?_
          simp only [List.nil_append, br_neg h47, tm, nbr_pos h43, br_pos c4, s4]
          refine Ev.bind (numberEv o0 o1 o2 o3) ?_
          simp only [g4, Option.bind_some, wk]
          refine Ev.bind h15 ?_
          rw [hx] at hy
          exact hy
        have hxl : x.2.2.length ≤ 1000000 := by rw [hx]; simp only; omega
        cases hv : valid x with
        | false =>
          refine ⟨(x, false), pre _ ?_, ?_⟩
          · refine Ev.bind (mayEv x.1 x.2.1 x.2.2 hxl) ?_
            have hv' : valid (x.1, (x.2.1, x.2.2)) = false := hv
            simp only [w2, br_pos c2, s2, hv']
            refine Ev.bind (sumEv _ (by omega) hoh) (Ev.br_false rfl (Ev.pure _))
          · rw [hpiece, if_neg (fun h => by rw [hv] at h; cases h.1), if_neg (by simp)]
        | true =>
          have hv' : valid (x.1, (x.2.1, x.2.2)) = true := hv
          by_cases e1 : s = (crc (head0 x) : Int) / 256
          · refine ⟨(x, decide (t = (crc (head0 x) : Int) % 256)), pre _ ?_, ?_⟩
            · refine Ev.bind (mayEv x.1 x.2.1 x.2.2 hxl) ?_
              simp only [w2, w1, br_pos c2, s2, hv']
              refine Ev.bind (sumEv _ (by omega) hoh) (Ev.br_true rfl ?_)
              simp (disch := omega) only [br_pos, Int.toNat_natCast, gs, gt, Option.bind_some, ws, wt, d1, d2, wd, br_pos e1]
              exact Ev.pure _
            · rw [hpiece]
              by_cases e2 : t = (crc (head0 x) : Int) % 256
              · rw [if_pos ⟨hv, hcx.2 ⟨e1, e2⟩⟩, if_pos (by simpa using e2)]
              · rw [if_neg (fun h => e2 (hcx.1 h.2).2), if_neg (by simpa using e2)]
          · refine ⟨(x, false), pre _ ?_, ?_⟩
            · refine Ev.bind (mayEv x.1 x.2.1 x.2.2 hxl) ?_
              simp only [w2, w1, br_pos c2, s2, hv']
              refine Ev.bind (sumEv _ (by omega) hoh) (Ev.br_true rfl ?_)
              simp (disch := omega) only [br_pos, Int.toNat_natCast, gs, Option.bind_some, ws, d1, wd, br_neg e1]
              exact Ev.pure _
            · rw [hpiece, if_neg (fun h => e1 (hcx.1 h.2).1), if_neg (by simp)]
      · refine ⟨((0, (0, [])), false), Ev.of_eq 1 ?_, ?_⟩
        · simp only [r32ReadEq]
          refine Ev.bind h3 ?_
          have h47 : ¬ (b.length : Int) < 7 := by omega
          have h43 : ¬ ((b.length % 4 : Nat) : Int) = 3 := by omega
          simp only [List.nil_append, br_neg h47, tm, nbr_neg h43]
          exact Ev.pure _
        · rw [if_neg (by simp), none_of]
          rintro a _ rfl
          rw [content_length] at h4
          omega

/-! ### Unpack -/
/-- The state of the loop: what is behind the last mark. -/
theorem unpackL4 (l : List Int) (hok : okBs l = true) (hl : l.length ≤ 500) : ∀ (r : List Int) (i : Nat) (out : List Msg) (last : Int), l.drop i = r → i ≤ l.length → out.length ≤ i →
    ((last = -1 ∧ 126 ∉ l.take i ∧ out = []) ∨ (∃ j : Nat, last = j ∧ j < i ∧ l.take i = l.take j ++ 126 :: (l.take i).drop (j + 1) ∧ 126 ∉ (l.take i).drop (j + 1) ∧ out = msgs (l.take i))) →
    ∃ (out' : List Msg) (last' : Int), Ev (fun n => r32UnpackL4 m n ((l, (out, (last, ((i : Int), ())))), ())) ((l, (out', (last', ()))), ()) ∧ out' = msgs l ∧ ((last' = -1 ∧ 126 ∉ l) ∨ (∃ j : Nat, last' = j ∧ j < l.length ∧ l = l.take j ++ 126 :: l.drop (j + 1) ∧ 126 ∉ l.drop (j + 1))) := by
  intro r
  induction r with
  | nil =>
    intro i out last hd hi ho hinv
    have := drop_nil hd
    have hil : i = l.length := by omega
    subst hil
    rw [List.take_length] at hinv
    refine ⟨out, last, Ev.of_eq 1 ?_, ?_, ?_⟩
    · simp (disch := omega) only [r32UnpackL4Eq, br_neg]
      exact Ev.pure _
    · rcases hinv with ⟨_, h2, h3⟩ | ⟨j, _, _, _, _, h5⟩
      · rw [h3]; unfold msgs; rw [splitB_none h2]; rfl
      · exact h5
    · rcases hinv with ⟨h1, h2, _⟩ | ⟨j, h1, h2, h3, h4, _⟩
      · exact .inl ⟨h1, h2⟩
      · exact .inr ⟨j, h1, h2, h3, h4⟩
  | cons x r ih =>
    intro i out last hd hi ho hinv
    obtain ⟨h1, h2, h3⟩ := drop_get hd
    have htk : l.take (i + 1) = l.take i ++ [x] := by
      rw [List.take_add_one, h1]; rfl
    have hti : (l.take i).length = i := by simp; omega
    by_cases hx : x = 126
    · subst hx
      have hde : (l.take i ++ [126]).drop (i + 1) = [] := by rw [List.drop_eq_nil_iff]; simp; omega
      rcases hinv with ⟨rfl, hn, rfl⟩ | ⟨j, rfl, hj, hsp, hfree, hout⟩
      · -- the first mark
        obtain ⟨o', l', e1, e2, e3⟩ := ih (i + 1) [] (i : Int) h2 (by omega) (by simp) (.inr ⟨i, rfl, by omega, by rw [htk, hde], by rw [htk, hde]; simp, by
          rw [htk, show l.take i ++ [126] = l.take i ++ 126 :: [] from rfl, msgs_mark, splitB_none hn]; rfl⟩)
        refine ⟨o', l', Ev.of_eq 1 ?_, e2, e3⟩
        have c : ¬ (0 : Int) ≤ -1 := by omega
        simp (disch := omega) only [r32UnpackL4Eq, br_pos, Int.toNat_natCast, h1, Option.bind_some, nbr_pos, nbr_T, br_neg c, wr i (by omega)]
        exact e1
      · -- a piece between two marks
        have hpl : ((l.take i).drop (j + 1)).length ≤ 1000 := by rw [List.length_drop, hti]; omega
        have hpo : okBs ((l.take i).drop (j + 1)) = true := ok_drop (ok_take hok i) _
        obtain ⟨y, ey, hy⟩ := readEv (m := m) ((l.take i).drop (j + 1)) hpo hpl hfree
        have hmsg : msgs (l.take (i + 1)) = out ++ (piece ((l.take i).drop (j + 1))).toList := by
          have e1 : l.take (i + 1) = l.take j ++ 126 :: ((l.take i).drop (j + 1) ++ 126 :: []) := by
            rw [htk, hsp]
            simp
            rw [← hsp]
          rw [e1, msgs_mark, splitB_append, splitB_none hfree]
          have e2 : out = msgs (l.take j ++ 126 :: (l.take i).drop (j + 1)) := by rw [← hsp]; exact hout
          rw [e2, msgs_mark, splitB_none hfree]
          show List.filterMap piece ((splitB 126 (l.take j)).drop 1 ++ [(l.take i).drop (j + 1)]) = _
          rw [List.filterMap_append, List.filterMap_append]
          simp only [List.dropLast_singleton, List.filterMap_nil, List.append_nil, List.filterMap_cons]
          cases piece ((l.take i).drop (j + 1)) <;> rfl
        have w1 : IntKind.i64.wrap ((j : Int) + 1) = ((j + 1 : Nat) : Int) := wr j (by omega)
        have c1 : 0 ≤ ((j + 1 : Nat) : Int) ∧ ((j + 1 : Nat) : Int) ≤ (i : Int) ∧ (i : Int) ≤ (l.length : Int) := by omega
        have c0 : (0 : Int) ≤ (j : Int) := by omega
        have s1 : (l.take ((i : Int)).toNat).drop (((j + 1 : Nat) : Int)).toNat = (l.take i).drop (j + 1) := by rw [Int.toNat_natCast, Int.toNat_natCast]
        have inv' : ∀ o2 : List Msg, o2 = msgs (l.take (i + 1)) → ((((i : Nat) : Int) = -1 ∧ 126 ∉ l.take (i + 1) ∧ o2 = []) ∨ (∃ j : Nat, ((i : Nat) : Int) = j ∧ j < i + 1 ∧ l.take (i + 1) = l.take j ++ 126 :: (l.take (i + 1)).drop (j + 1) ∧ 126 ∉ (l.take (i + 1)).drop (j + 1) ∧ o2 = msgs (l.take (i + 1)))) := fun o2 h => .inr ⟨i, rfl, by omega, by rw [htk, hde], by rw [htk, hde]; simp, h⟩
        have t126 : (126 : Int) = 126 := rfl
        cases hy2 : y.2 with
        | false =>
          rw [hy2, if_neg (by simp)] at hy
          rw [hy] at hmsg
          obtain ⟨o', l', e1, e2, e3⟩ := ih (i + 1) out (i : Int) h2 (by omega) (by omega) (inv' out (by rw [hmsg]; simp))
          refine ⟨o', l', Ev.of_eq 1 ?_, e2, e3⟩
          simp (disch := omega) only [r32UnpackL4Eq, br_pos, Int.toNat_natCast, h1, Option.bind_some, nbr_pos t126, br_pos c0, w1, br_pos c1, s1]
          refine Ev.bind (x := ((l, (out, (((i : Nat) : Int), (((i : Nat) : Int), ())))), ())) ?_ ?_
          · refine Ev.bind (x := ((l, (out, (((i : Nat) : Int), ()))), ())) ?_ (Ev.pure _)
            exact Ev.bind ey (Ev.br_false hy2 (Ev.pure _))
          · simp only [wr i (by omega)]
            exact e1
        | true =>
          rw [hy2, if_pos rfl] at hy
          rw [hy] at hmsg
          obtain ⟨o', l', e1, e2, e3⟩ := ih (i + 1) (out ++ [y.1]) (i : Int) h2 (by omega) (by simp; omega) (inv' _ (by rw [hmsg]; simp))
          refine ⟨o', l', Ev.of_eq 1 ?_, e2, e3⟩
          have q1 : (out.length + [(y.1.1, (y.1.2.1, y.1.2.2))].length) * 40 ≤ 140737488355328 := by simp only [List.length_cons, List.length_nil]; omega
          simp (disch := omega) only [r32UnpackL4Eq, br_pos, Int.toNat_natCast, h1, Option.bind_some, nbr_pos t126, br_pos c0, w1, br_pos c1, s1]
          refine Ev.bind (x := ((l, (out ++ [y.1], (((i : Nat) : Int), (((i : Nat) : Int), ())))), ())) ?_ ?_
          · refine Ev.bind (x := ((l, (out ++ [y.1], (((i : Nat) : Int), ()))), ())) ?_ (Ev.pure _)
            exact Ev.bind ey (Ev.br_true hy2 (Ev.pure _))
          · simp only [wr i (by omega)]
            exact e1
    · have inv' : ((last = -1 ∧ 126 ∉ l.take (i + 1) ∧ out = []) ∨ (∃ j : Nat, last = j ∧ j < i + 1 ∧ l.take (i + 1) = l.take j ++ 126 :: (l.take (i + 1)).drop (j + 1) ∧ 126 ∉ (l.take (i + 1)).drop (j + 1) ∧ out = msgs (l.take (i + 1)))) := by
        rcases hinv with ⟨h4, h5, h6⟩ | ⟨j, h4, h5, h6, h7, h8⟩
        · refine .inl ⟨h4, ?_, h6⟩
          rw [htk]
          simp only [List.mem_append, List.mem_singleton, not_or]
          exact ⟨h5, fun e => hx e.symm⟩
        · have hdx : (l.take i ++ [x]).drop (j + 1) = (l.take i).drop (j + 1) ++ [x] := by
            rw [List.drop_append_of_le_length (by omega)]
          have hfree' : 126 ∉ (l.take i).drop (j + 1) ++ [x] := by
            simp only [List.mem_append, List.mem_singleton, not_or]
            exact ⟨h7, fun e => hx e.symm⟩
          have hsp : l.take i ++ [x] = l.take j ++ 126 :: ((l.take i).drop (j + 1) ++ [x]) := by
            have := congrArg (· ++ [x]) h6
            simpa using this
          refine .inr ⟨j, h4, by omega, ?_, ?_, ?_⟩
          · rw [htk, hdx]; exact hsp
          · rw [htk, hdx]; exact hfree'
          · rw [htk, hsp, msgs_mark, splitB_none hfree', h8]
            conv => lhs; rw [h6, msgs_mark, splitB_none h7]
            rfl
      obtain ⟨o', l', e1, e2, e3⟩ := ih (i + 1) out last h2 (by omega) (by omega) inv'
      refine ⟨o', l', Ev.of_eq 1 ?_, e2, e3⟩
      simp (disch := omega) only [r32UnpackL4Eq, br_pos, Int.toNat_natCast, h1, Option.bind_some, nbr_neg hx, wr i (by omega)]
      exact e1
theorem unpackEv (l : List Int) (hok : okBs l = true) (hl : l.length ≤ 500) : Ev (fun n => r32Unpack m n l) (msgs l, rest l) := by
  obtain ⟨o', l', e1, rfl, e3⟩ := unpackL4 (m := m) l hok hl l 0 [] (-1) rfl (Nat.zero_le _) (Nat.le_refl _) (.inl ⟨rfl, by simp, rfl⟩)
  refine Ev.of_eq 1 ?_
  simp only [r32UnpackEq]
  refine Ev.bind e1 ?_
  rcases e3 with ⟨rfl, hn⟩ | ⟨j, rfl, hj, hsp, hfree⟩
  · have c : (-1 : Int) < 0 := by omega
    simp only [br_pos c]
    exact (Ev.pure _).congr (by rw [rest_free hn])
  · have c : ¬ (j : Int) < 0 := by omega
    have c1 : 0 ≤ (j : Int) ∧ (j : Int) ≤ (l.length : Int) ∧ (l.length : Int) ≤ (l.length : Int) := by omega
    have s1 : (l.take ((l.length : Int)).toNat).drop ((j : Int)).toNat = l.drop j := by rw [Int.toNat_natCast, Int.toNat_natCast, List.take_length]
    simp only [br_neg c, br_pos c1, s1]
    refine (Ev.pure _).congr ?_
    have h2 : l.drop j = 126 :: l.drop (j + 1) := by
      have h3 := congrArg (List.drop j) hsp
      rw [List.drop_append_of_le_length (by simp; omega)] at h3
      have h4 : (l.take j).drop j = [] := by rw [List.drop_eq_nil_iff]; simp; omega
      rw [h4] at h3
      exact h3
    have h5 := rest_eq (l.take j) (l.drop (j + 1)) hfree
    rw [← hsp] at h5
    rw [h5, h2]

theorem matchesReference (a b : Int) (l c : List Int) (hok : okBs c = true) : Ev (fun n => l32FramingMatchesReference m n a b l c) true := by
  refine Ev.of_eq 1 ?_
  simp only [l32FramingMatchesReferenceEq]
  refine Ev.bind headEv ?_
  refine Ev.bind (greatEv a b l) ?_
  by_cases hg : 30 < (l.length : Int)
  · simp only [br_pos hg]; exact Ev.pure _
  · simp only [br_neg hg]
    by_cases hc : 400 < (c.length : Int)
    · simp only [br_pos hc]; exact Ev.pure _
    · simp only [br_neg hc]
      refine Ev.bind (decodeEv c hok (by omega)) ?_
      refine Ev.bind (unpackEv c hok (by omega)) ?_
      refine Ev.bind (encodeEv a b l (by omega)) ?_
      refine Ev.bind (packEv a b l (by omega)) ?_
      have hel := encode_le (a, (b, l))
      have hml := msgs_le c
      obtain ⟨_, hrl⟩ := ok_rest hok
      refine Ev.bind (bytesEv _ _ (by omega)) ?_
      refine Ev.bind (sameAllEv (msgs c) (msgs c) (by omega) fun x hx => valid_nums (msgs_valid x hx)) ?_
      refine Ev.bind (bytesEv (rest c) (rest c) (by omega)) ?_
      refine Ev.br_true rfl (Ev.br_true (by simp) (Ev.br_true (by simp) (Ev.br_true (by simp) ?_)))
      refine Ev.bind (validEv a b l (by omega)) ?_
      refine Ev.bind (mayEv a b l (by omega)) ?_
      refine Ev.br_true (by simp) ?_
      refine Ev.bind (checksum (by omega) hok) ?_
      refine Ev.bind (sumEv c (by omega) hok) ?_
      exact (Ev.pure _).congr (by simp)
end Go.Fr
