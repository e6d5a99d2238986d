import Derived.Test.YtlgocmlcniindaaBSwArc2
set_option linter.unusedVariables false
set_option linter.unusedSimpArgs false
set_option linter.unnecessarySimpa false
/-
  SWEEP: the arc, the law.
-/
namespace Go.Sw
open Go Go.Am Go.Proofs Go.Hu

theorem t1000_bd (x : Int) : -999 ≤ x.tmod 1000 ∧ x.tmod 1000 ≤ 999 := by
  rcases Int.lt_or_le x 0 with h | h
  · have : x.tmod 1000 = -((-x).tmod 1000) := by rw [Int.neg_tmod, Int.neg_neg]
    rw [this, Int.tmod_eq_emod_of_nonneg (by omega)]; omega
  · rw [Int.tmod_eq_emod_of_nonneg h]; omega
theorem tmn (a b : Nat) : ((a : Nat) : Int).tmod ((b : Nat) : Int) = ((a % b : Nat) : Int) := by
  rw [Int.tmod_eq_emod_of_nonneg (by omega)]; rfl

theorem arc_hull {L S : List Pt} {o : Pt} {q : Nat} (hq : q < 9) {h k : Int} (hh : 0 < h) (hk : 0 ≤ k) (hway : k * (4225 + cB q) ≤ h * sB q) (R : Ring (points o (L.map (arm o (tb q))) (L.map (arm o (tb (q + 1))))) S) {z : Pt} (hz : z ∈ L) {i : Nat} (hi : i < S.length) :
    0 ≤ edgeV (at_ S i) (at_ S (nx S i)) o (arcW (16 * (rotP (p41 z) (tb q).1 (tb q).2).1, 16 * (rotP (p41 z) (tb q).1 (tb q).2).2) h k) (h * h + k * k) := by
  obtain ⟨t1, t2, t3, t4, t5, t6, t7⟩ := tb_ok hq
  obtain ⟨v1, v2⟩ := rot_rel (p41 z) (tb q).1 (tb q).2 (tb (q + 1)).1 (tb (q + 1)).2 t1
  have ha := R.left i hi (arm o (tb q) z) (List.mem_append_left _ (List.mem_append_left _ (List.mem_map_of_mem hz)))
  have hb := R.left i hi (arm o (tb (q + 1)) z) (List.mem_append_left _ (List.mem_append_right _ (List.mem_map_of_mem hz)))
  have ho := R.left i hi (outerP o (arm o (tb q) z) (arm o (tb (q + 1)) z)) (List.mem_append_right _ (by rw [zipmap]; exact List.mem_map_of_mem (f := fun z => outerP o (arm o (tb q) z) (arm o (tb (q + 1)) z)) hz))
  unfold arm at ha hb ho
  rw [outer_arc] at ho
  exact arc_side t2 t3 t4 t5 t6 t7 hh hk hway v1 v2 ha hb ho

theorem outer_S2 {o a b : Pt} (ho : (-16000 ≤ o.1 ∧ o.1 ≤ 16000) ∧ (-16000 ≤ o.2 ∧ o.2 ≤ 16000)) (ha : (-100000 ≤ a.1 ∧ a.1 ≤ 100000) ∧ (-100000 ≤ a.2 ∧ a.2 ≤ 100000)) (hb : (-100000 ≤ b.1 ∧ b.1 ≤ 100000) ∧ (-100000 ≤ b.2 ∧ b.2 ≤ 100000)) : S2 (outerP o a b) := by
  have h1 := tdiv16_bd (x := 9 * (a.1 + b.1 - 2 * o.1)) (M := 131000) (by omega) (by omega)
  have h2 := tdiv16_bd (x := 9 * (a.2 + b.2 - 2 * o.2)) (M := 131000) (by omega) (by omega)
  unfold S2 outerP outerC
  simp only
  omega

theorem sweepArcEv (p : Pt) (l : List Pt) (t nn mm : Int) (ht : 0 ≤ t ∧ t < 256) (hn : 0 ≤ nn ∧ nn < 256) (hm : 0 ≤ mm ∧ mm < 256) : Ev (fun n => l06SweepArc n p.1 p.2 l t nn mm) true := by
  refine Ev.of_eq 1 ?_
  simp only [l06SweepArcEq]
  refine Ev.bind headEv ?_
  have p1 := t1000_bd p.1
  have p2 := t1000_bd p.2
  have w1 : IntKind.i64.wrap (p.1.tmod 1000 * 16) = p.1.tmod 1000 * 16 := w64 (by omega) (by omega)
  have w2 : IntKind.i64.wrap (p.2.tmod 1000 * 16) = p.2.tmod 1000 * 16 := w64 (by omega) (by omega)
  simp only [w1, w2]
  refine Ev.bind (atEv _ _) ?_
  obtain ⟨o, ho⟩ : ∃ o : Pt, o = (p.1.tmod 1000 * 16, p.2.tmod 1000 * 16) := ⟨_, rfl⟩
  have e1 : p.1.tmod 1000 * 16 = o.1 := by rw [ho]
  have e2 : p.2.tmod 1000 * 16 = o.2 := by rw [ho]
  have hob : (-16000 ≤ o.1 ∧ o.1 ≤ 16000) ∧ (-16000 ≤ o.2 ∧ o.2 ≤ 16000) := by rw [← e1, ← e2]; omega
  simp only [e1, e2]
  obtain ⟨t', rfl⟩ : ∃ w : Nat, t = (w : Int) := ⟨t.toNat, by omega⟩
  obtain ⟨n', rfl⟩ : ∃ w : Nat, nn = (w : Int) := ⟨nn.toNat, by omega⟩
  obtain ⟨m', rfl⟩ : ∃ w : Nat, mm = (w : Int) := ⟨mm.toNat, by omega⟩
  have wt : (IntKind.i64.wrap (t' : Int)).tmod 9 = ((t' % 9 : Nat) : Int) := by rw [w64 (by omega) (by omega)]; exact tmn t' 9
  have wm : (IntKind.i64.wrap (m' : Int)).tmod 99 = ((m' % 99 : Nat) : Int) := by rw [w64 (by omega) (by omega)]; exact tmn m' 99
  have hq : t' % 9 < 9 := Nat.mod_lt _ (by decide)
  have hh99 : m' % 99 < 99 := Nat.mod_lt _ (by decide)
  generalize t' % 9 = q at wt hq
  generalize m' % 99 = hm0 at wm hh99
  have wh : IntKind.i64.wrap (1 + ((hm0 : Nat) : Int)) = ((hm0 + 1 : Nat) : Int) := by rw [w64 (by omega) (by omega)]; omega
  have wh1 : IntKind.i64.wrap (((hm0 + 1 : Nat) : Int) + 1) = ((hm0 + 2 : Nat) : Int) := by rw [w64 (by omega) (by omega)]; omega
  have wk : (IntKind.i64.wrap (n' : Int)).tmod ((hm0 + 2 : Nat) : Int) = ((n' % (hm0 + 2) : Nat) : Int) := by rw [w64 (by omega) (by omega)]; exact tmn n' (hm0 + 2)
  have hk99 : n' % (hm0 + 2) < hm0 + 2 := Nat.mod_lt _ (by omega)
  simp only [wt, wm, wh, wh1, wk]
  generalize n' % (hm0 + 2) = k0 at wk hk99
  refine Ev.bind (x := ((l, ((n' : Int), ((m' : Int), (true, ((), (((q : Nat) : Int), ((), ()))))))), ((), ((o.1, (o.2, ())), (((tb q).1, ((tb q).2, ())), ()))))) (Ev.bind quarterTabEv ?_) ?_
  · rcases nine hq with rfl | rfl | rfl | rfl | rfl | rfl | rfl | rfl | rfl <;> exact Ev.pure _
  refine Ev.bind (x := ((l, ((n' : Int), ((m' : Int), (true, ((), (((q : Nat) : Int), ((), ((), ())))))))), ((), ((o.1, (o.2, ())), (((tb q).1, ((tb q).2, ())), (((tb (q + 1)).1, ((tb (q + 1)).2, ())), ())))))) (Ev.bind quarterTabEv ?_) ?_
  · simp only [wr1 q (by omega)]
    rcases nine hq with rfl | rfl | rfl | rfl | rfl | rfl | rfl | rfl | rfl <;> exact Ev.pure _
  refine Ev.bind (arcL9 l (n' : Int) (m' : Int) ((q : Nat) : Int) true o (tb q) (tb (q + 1)) hob (tb_bd q) (tb_bd (q + 1)) (l.take 12) 0 [] [] rfl (Nat.zero_le _) rfl rfl) ?_
  have hL : (l.take 12).length ≤ 12 := by rw [List.length_take]; omega
  generalize l.take 12 = L at hL
  simp only [List.nil_append]
  have mid : ∀ x : Pt, ((-100000 ≤ x.1 ∧ x.1 ≤ 100000) ∧ (-100000 ≤ x.2 ∧ x.2 ≤ 100000)) → Mid x := fun x h => by unfold Mid; omega
  have bA : ∀ y ∈ L.map (arm o (tb q)), (-100000 ≤ y.1 ∧ y.1 ≤ 100000) ∧ (-100000 ≤ y.2 ∧ y.2 ≤ 100000) := fun y hy => by
    obtain ⟨z, _, rfl⟩ := List.mem_map.1 hy
    exact arm_bd hob (tb_bd q) z
  have bB : ∀ y ∈ L.map (arm o (tb (q + 1))), (-100000 ≤ y.1 ∧ y.1 ≤ 100000) ∧ (-100000 ≤ y.2 ∧ y.2 ≤ 100000) := fun y hy => by
    obtain ⟨z, _, rfl⟩ := List.mem_map.1 hy
    exact arm_bd hob (tb_bd (q + 1)) z
  refine Ev.bind (regionEv (o := o) (a := L.map (arm o (tb q))) (b := L.map (arm o (tb (q + 1)))) (mid o (by omega)) (by rw [List.length_map]; omega) (fun y hy => mid y (bA y hy)) (fun y hy => mid y (bB y hy))) ?_
  have hreg : region o (L.map (arm o (tb q))) (L.map (arm o (tb (q + 1)))) = hullRes (points o (L.map (arm o (tb q))) (L.map (arm o (tb (q + 1))))) := by
    unfold region
    rw [if_neg (by simp), if_neg (by rw [List.length_map]; omega)]
  rw [hreg]
  have c0 : ¬ ((hm0 + 2 : Nat) : Int) = 0 := by omega
  simp only [wm, wh, wh1, br_neg c0]
  rcases hullRes_spec (points o (L.map (arm o (tb q))) (L.map (arm o (tb (q + 1))))) with ⟨hf, _⟩ | ⟨S, hS, H⟩
  · rw [hf]; exact Ev.pure _
  · rw [hS]
    simp only [Bool.not_true, br_f, wk]
    refine Ev.bind (wayEv q hq ((k0 : Nat) : Int) ((hm0 + 1 : Nat) : Int) ⟨by omega, by omega⟩ ⟨by omega, by omega⟩) ?_
    by_cases hw : ((k0 : Nat) : Int) * (4225 + cB q) ≤ ((hm0 + 1 : Nat) : Int) * sB q
    · rw [decide_eq_true hw]
      simp only [Bool.not_true, br_f]
      have hSl : S.length < 1000000 := by
        have k1 := hullRes_len (points o (L.map (arm o (tb q))) (L.map (arm o (tb (q + 1)))))
        rw [hS] at k1
        have k2 : (points o (L.map (arm o (tb q))) (L.map (arm o (tb (q + 1))))).length ≤ 36 := by
          unfold points
          rw [zipmap]
          simp only [List.length_append, List.length_map]
          omega
        simp only at k1
        omega
      have hSb : ∀ y ∈ S, S2 y := fun y hy => by
        have wide : ∀ x : Pt, ((-100000 ≤ x.1 ∧ x.1 ≤ 100000) ∧ (-100000 ≤ x.2 ∧ x.2 ≤ 100000)) → S2 x := fun x h => by unfold S2; omega
        rcases List.mem_append.1 (H.sub y hy) with k | k
        · rcases List.mem_append.1 k with k | k
          · exact wide y (bA y k)
          · exact wide y (bB y k)
        · rw [zipmap] at k
          obtain ⟨z, _, rfl⟩ := List.mem_map.1 k
          exact outer_S2 hob (arm_bd hob (tb_bd q) z) (arm_bd hob (tb_bd (q + 1)) z)
      have q1 := mulb (A := 99) (B := 99) (a := ((hm0 + 1 : Nat) : Int)) (b := ((hm0 + 1 : Nat) : Int)) (by omega) (by omega)
      have q2 := mulb (A := 99) (B := 99) (a := ((k0 : Nat) : Int)) (b := ((k0 : Nat) : Int)) (by omega) (by omega)
      have x1 : IntKind.i64.wrap (((hm0 + 1 : Nat) : Int) * ((hm0 + 1 : Nat) : Int)) = ((hm0 + 1 : Nat) : Int) * ((hm0 + 1 : Nat) : Int) := w64 (by omega) (by omega)
      have x2 : IntKind.i64.wrap (((k0 : Nat) : Int) * ((k0 : Nat) : Int)) = ((k0 : Nat) : Int) * ((k0 : Nat) : Int) := w64 (by omega) (by omega)
      have x3 : IntKind.i64.wrap (((hm0 + 1 : Nat) : Int) * ((hm0 + 1 : Nat) : Int) + ((k0 : Nat) : Int) * ((k0 : Nat) : Int)) = ((hm0 + 1 : Nat) : Int) * ((hm0 + 1 : Nat) : Int) + ((k0 : Nat) : Int) * ((k0 : Nat) : Int) := w64 (by omega) (by omega)
      simp only [x1, x2, x3]
      refine Ev.bind (arcL23 true L S hL hSl H.pos hSb o (tb q) hob (tb_bd q) ((hm0 + 1 : Nat) : Int) ((k0 : Nat) : Int) ⟨by omega, by omega⟩ ⟨by omega, by omega⟩ (fun z hz i hi => arc_hull hq (by omega) (by omega) hw H.toRing hz hi) L 0 rfl (Nat.zero_le _)) ?_
      exact Ev.pure _
    · rw [decide_eq_false hw]
      exact Ev.pure _
end Go.Sw
