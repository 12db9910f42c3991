/- The law of two tables side by side, in plain Lean. -/
import Derived.Test.YtmdnddoiopgboaaDoorLtab6
import Derived.Test.YtmdnddoiopgboaaDoorPTabS
namespace Go.D.YtmdnddoiopgboaaDoor
open Go.Proofs Tab
set_option linter.unusedVariables false
set_option linter.unusedSimpArgs false
set_option maxRecDepth 100000
variable {N : Nat} {σ : Slo} {k v : Int} {d : Nat} {t : List En × Int × Unit} {w : List Bool × List Int × List Int × Unit}
theorem eqb (b : Bool) : eqD Ty.bool b b = true := by cases b <;> rfl
theorem both_put (h : TG N t σ) (hw : ROk N w σ) (k v : Int) : ∃ t' w' b σ', table_Put.pre t k v = true ∧ ref23_Put.pre w k v = true ∧ table_Put t k v = (t', b) ∧ ref23_Put w k v = (w', b) ∧ TG N t' σ' ∧ ROk N w' σ' := by
  obtain ⟨d, hf⟩ := h.inv.find k
  obtain ⟨p1, t', p2, p3⟩ := h.put (v := v) hf
  obtain ⟨q1, w', q2, q3⟩ := hw.put h.size (v := v) hf
  exact ⟨t', w', _, _, p1, q1, p2, q2, p3, q3⟩
theorem both_del (h : TG N t σ) (hw : ROk N w σ) (k : Int) : ∃ t' w' b σ', table_Del.pre t k = true ∧ ref23_Del.pre w k = true ∧ table_Del t k = (t', b) ∧ ref23_Del w k = (w', b) ∧ TG N t' σ' ∧ ROk N w' σ' := by
  obtain ⟨d, hf⟩ := h.inv.find k
  obtain ⟨p1, t', τ, b, p2, p3, p4⟩ := h.del hf
  obtain ⟨q1, w', τ', b', q2, q3, q4⟩ := hw.del h.size h.inv hf
  obtain ⟨rfl, rfl⟩ := p4.unique q4
  exact ⟨t', w', b, τ, p1, q1, p2, q2, p3, q3⟩
theorem both_get (h : TG N t σ) (hw : ROk N w σ) (k : Int) : table_Get.pre t k = true ∧ ref23_Get.pre w k = true ∧ table_Get t k = ref23_Get w k := by
  obtain ⟨d, hf⟩ := h.inv.find k
  obtain ⟨p1, p2⟩ := h.get hf
  obtain ⟨q1, q2⟩ := hw.get h.size hf
  exact ⟨p1, q1, p2.trans q2.symm⟩
theorem both_agree (h : TG N t σ) (hw : ROk N w σ) : ref23_Len.pre w = true ∧ table_Len t = ref23_Len w ∧ table_Places.pre t = true ∧ ref23_Places.pre w = true ∧ help_Ints.pre (table_Places t) (ref23_Places w) = true ∧ help_Ints (table_Places t) (ref23_Places w) = true := by
  obtain ⟨p1, p2⟩ := hw.len h.size
  obtain ⟨q1, q2⟩ := h.places
  obtain ⟨r1, r2⟩ := hw.places h.size
  obtain ⟨s1, s2⟩ := help_Ints.of_opt _ _ (ints_same (a := pl σ N) (by rw [pl_length]; exact h.size.le))
  rw [q2, r2]
  exact ⟨p1, h.n.trans p2.symm, q1, r1, s1, s2⟩
theorem both_home (k s : Int) : table_Home.pre k s = true ∧ ref23_Home.pre k s = true ∧ table_Home k s = ref23_Home k s := by
  obtain ⟨h1, h2⟩ := table_Home.of_opt _ _ (table_Home_opt k s)
  obtain ⟨h3, h4⟩ := ref23_Home.of_opt _ _ (ref23_Home_opt k s)
  exact ⟨h1, h3, h2.trans h4.symm⟩
theorem plays_round (h : TG N t σ) (hw : ROk N w σ) (l : List (Int × Int × Int × Unit)) (hl : l.length ≤ 80) {i : Nat} (hi : i < l.length) (v0 n : Int) (v4 : List Int) (v5 v6 : Int) :
    ∃ t' w' σ', TG N t' σ' ∧ ROk N w' σ' ∧ ∀ {R : Type} (KR : Int → (List (Int × Int × Int × Unit)) → Bool → (List Int) → Int → Int → Option R) (K : Int → (List (Int × Int × Int × Unit)) → (List Int) → Int → Int → Option R) (next : _ → Option R), law23_TablePlays.R2 KR K (v0, l, n, (i : Int), v4, v5, v6, t, w) next = next (v0, l, n, ((i + 1 : Nat) : Int), v4, v5, v6, t', w') := by
  obtain ⟨A, hA⟩ : ∃ A : Int × Int × Int × Unit, A = (List.getD l (Int.toNat (i : Int)) (Ty.dflt (Ty.pair (Ty.int IntKind.u8) (Ty.pair (Ty.int IntKind.u32) (Ty.pair (Ty.int IntKind.i64) Ty.unit))))) := ⟨_, rfl⟩
  obtain ⟨P, hP⟩ : ∃ P : Bool, P = (bif Int.tmod (Prod.fst A) (5 : Int) == (0 : Int) then Int.tmod (Prod.fst A) (5 : Int) == (0 : Int) else bif Int.tmod (Prod.fst A) (5 : Int) == (1 : Int) then Int.tmod (Prod.fst A) (5 : Int) == (1 : Int) else Int.tmod (Prod.fst A) (5 : Int) == (2 : Int)) := ⟨_, rfl⟩
  obtain ⟨D, hD⟩ : ∃ D : Bool, D = (Int.tmod (Prod.fst A) (5 : Int) == (3 : Int)) := ⟨_, rfl⟩
  obtain ⟨k, hk⟩ : ∃ k : Int, k = (bif decide (Prod.fst A < (200 : Int)) then IntKind.wrap IntKind.u32 (Int.tmod (Prod.fst (Prod.snd A)) (24 : Int) * (2 : Int)) else Prod.fst (Prod.snd A)) := ⟨_, rfl⟩
  obtain ⟨v, hv⟩ : ∃ v : Int, v = bitop BinOp.and IntKind.i64 (Prod.fst (Prod.snd (Prod.snd A))) (65535 : Int) := ⟨_, rfl⟩
  obtain ⟨e1, e2, e3⟩ := both_home k n
  have hin : decide ((0 : Int) ≤ (i : Int)) = true := decide_eq_true (by omega)
  have hlt : decide ((i : Int) < (l.length : Int)) = true := decide_eq_true (by omega)
  have hwr : IntKind.wrap .i64 ((i : Int) + 1) = ((i + 1 : Nat) : Int) := by rw [wrap64 (by omega) (by omega)]; omega
  cases P with
  | true =>
    obtain ⟨t', w', b, σ', p1, p2, p3, p4, p5, p6⟩ := both_put h hw k v
    obtain ⟨r1, r2, r3, r4, r5, r6⟩ := both_agree p5 p6
    refine ⟨t', w', σ', p5, p6, fun {R} KR K next => ?_⟩
    rw [law23_TablePlays.R2_eq, law23_TablePlays.round2, ← hA, ← hk, ← hv, ← hP, ← hD]
    simp only [hin, hlt, cond_true, cond_false, p1, p2, p3, p4, eqb, Bool.not_true, Bool.not_false, Bool.and_false, Bool.and_true, Bool.true_and, eta3, eta4, r1, r2, r3, r4, r5, r6, bne_self_eq_false, Bool.false_or, e1, e2, e3, hwr]
  | false =>
    cases D with
    | true =>
      obtain ⟨t', w', b, σ', p1, p2, p3, p4, p5, p6⟩ := both_del h hw k
      obtain ⟨r1, r2, r3, r4, r5, r6⟩ := both_agree p5 p6
      refine ⟨t', w', σ', p5, p6, fun {R} KR K next => ?_⟩
      rw [law23_TablePlays.R2_eq, law23_TablePlays.round2, ← hA, ← hk, ← hv, ← hP, ← hD]
      simp only [hin, hlt, cond_true, cond_false, p1, p2, p3, p4, eqb, Bool.not_true, Bool.not_false, Bool.and_false, Bool.and_true, Bool.true_and, eta3, eta4, r1, r2, r3, r4, r5, r6, bne_self_eq_false, Bool.false_or, e1, e2, e3, hwr]
    | false =>
      obtain ⟨p1, p2, p3⟩ := both_get h hw k
      obtain ⟨r1, r2, r3, r4, r5, r6⟩ := both_agree h hw
      refine ⟨t, w, σ, h, hw, fun {R} KR K next => ?_⟩
      rw [law23_TablePlays.R2_eq, law23_TablePlays.round2, ← hA, ← hk, ← hv, ← hP, ← hD]
      simp only [hin, hlt, cond_true, cond_false, eta3, eta4, p1, p2, p3, eqb, Bool.not_true, Bool.not_false, Bool.and_false, Bool.and_true, Bool.true_and, r1, r2, r3, r4, r5, r6, bne_self_eq_false, Bool.false_or, e1, e2, e3, hwr]
theorem plays_loop (l : List (Int × Int × Int × Unit)) (hl : l.length ≤ 80) (v0 n : Int) (v4 : List Int) (v5 v6 : Int) {R : Type} (KR : Int → (List (Int × Int × Int × Unit)) → Bool → (List Int) → Int → Int → Option R) (K : Int → (List (Int × Int × Int × Unit)) → (List Int) → Int → Int → Option R) : ∀ (m i : Nat) (t : List En × Int × Unit) (w : List Bool × List Int × List Int × Unit) (σ : Slo), i + m = l.length → TG N t σ → ROk N w σ →
    ∀ x, lp (law23_TablePlays.R2 KR K) (x + m + 1) (v0, l, n, (i : Int), v4, v5, v6, t, w) = K v0 l v4 v5 v6 := by
  intro m
  induction m with
  | zero =>
    intro i t w σ hi h hw x
    rw [lp_succ, law23_TablePlays.R2_eq, law23_TablePlays.round2, decide_eq_false (by omega : ¬ (i : Int) < (l.length : Int))]
    rfl
  | succ m ih =>
    intro i t w σ hi h hw x
    obtain ⟨t', w', σ', q1, q2, q3⟩ := plays_round h hw l hl (i := i) (by omega) v0 n v4 v5 v6
    rw [show x + (m + 1) + 1 = (x + m + 1) + 1 by omega, lp_succ, q3]
    exact ih (i + 1) t' w' σ' (by omega) q1 q2 x
theorem plays_size (l : List (Int × Int × Int × Unit)) (hl : l.length ≤ 80) (v0 : Int) (L : List Int) (hL : L.length = 2) {R : Type} (KR : Int → Bool → Option R) (K : Int → Option R) (next : _ → Option R) {i : Nat} (hi : i < 2) : law23_TablePlays.R0 KR K (v0, l, L, 2, (i : Int)) next = next (v0, l, L, 2, ((i + 1 : Nat) : Int)) := by
  rw [law23_TablePlays.R0_eq, law23_TablePlays.round0]
  obtain ⟨n1, n2⟩ := new_t (L.getD i 0)
  obtain ⟨m1, m2⟩ := new_r (L.getD i 0)
  have hin := in_range (show i < 2 by omega)
  simp only [hL, Int.toNat_natCast, hin, n1, m1, cond_true]
  rw [decide_eq_true (show (i : Int) < 2 by omega)]
  simp only [cond_true]
  unfold law23_TablePlays.loop2
  have := plays_loop (N := (tsz (L.getD i 0)).toNat) l hl v0 (L.getD i 0) L 2 (i : Int) (fun e0 e1 e2 e3 e4 e5 => KR e0 e2) (fun e0 e1 e2 e3 e4 => next (e0, e1, e2, e3, IntKind.wrap .i64 (e4 + 1))) l.length 0 (table_New (L.getD i 0)) (ref23_NewTable (L.getD i 0)) em (by omega) n2 m2 (100 - l.length - 1)
  rw [show 100 - l.length - 1 + l.length + 1 = 100 by omega] at this
  refine Eq.trans this ?_
  rw [wrap64 (by omega) (by omega)]
  rfl
theorem plays_true (a0 : Int) (a1 : List (Int × Int × Int × Unit)) (a2 : Int) : law23_TablePlays.pre a0 a1 a2 = true ∧ law23_TablePlays a0 a1 a2 = true := by
  refine law23_TablePlays.of_opt _ _ _ ?_
  unfold law23_TablePlays.opt law23_TablePlays.tree
  by_cases hl : (a1.length : Int) > 80
  · rw [decide_eq_true hl]; rfl
  · rw [decide_eq_false hl]
    simp only [cond_false]
    unfold law23_TablePlays.loop0
    generalize hL : [iminmax false a0 (100 : Int), IntKind.wrap IntKind.i64 (Int.tmod a2 (40 : Int))] = L
    have hll : L.length = 2 := by rw [← hL]; rfl
    obtain ⟨e1, e2, e3⟩ := both_home 7 a0
    rw [show (0 : Int) = ((0 : Nat) : Int) from rfl, lp_succ, plays_size a1 (by omega) a0 L hll _ _ _ (by omega), lp_succ, plays_size a1 (by omega) a0 L hll _ _ _ (by omega), lp_succ, law23_TablePlays.R0_eq, law23_TablePlays.round0]
    rw [decide_eq_false (by omega)]
    simp only [cond_false, e1, e2, e3, cond_true, beq_self_eq_true]
theorem law23_TablePlays.true (a0 : Int) (a1 : List (Int × Int × Int × Unit)) (a2 : Int) : law23_TablePlays a0 a1 a2 = true := (plays_true a0 a1 a2).2
end Go.D.YtmdnddoiopgboaaDoor
