/- The law of tables that were filled and emptied, in plain Lean. -/
import Derived.Test.YtmdnddoiopgboaaDoorLtab4
import Derived.Test.YtmdnddoiopgboaaDoorPTabS
namespace Go.D.YtmdnddoiopgboaaDoor
open Go.Proofs Tab
set_option linter.unusedVariables false
set_option linter.unusedSimpArgs false
set_option maxRecDepth 100000
variable {N : Nat} {σ : Slo} {k v : Int} {d : Nat}
abbrev Act := Int × Int × Int × Unit
def dAct : Act := Ty.dflt (Ty.pair (Ty.int .u8) (Ty.pair (Ty.int .u32) (Ty.pair (Ty.int .i64) Ty.unit)))
/-- all keys that are there are on a list -/
def On (N : Nat) (σ : Slo) (l : List Int) : Prop := ∀ k v, Has N σ k v → k ∈ l
theorem put_on (hN : Size N) (hI : Tab.Inv N (hm N) σ) (hf : Fnd N (hm N) σ k d) {l : List Int} (h : On N σ l) : On N (putA N σ k v (P N (hm N) k d)).1 (bif (putA N σ k v (P N (hm N) k d)).2 then l ++ [k] else l) := by
  unfold putA
  split
  · exact h
  · rintro k' v' ⟨i, h1, h2⟩
    simp only [cond_true, List.mem_append, List.mem_singleton]
    by_cases e : i = P N (hm N) k d
    · rw [e] at h2
      simp only [upd_same] at h2
      cases h2
      exact .inr rfl
    · simp only [upd_ne σ e] at h2
      exact .inl (h _ _ ⟨i, h1, h2⟩)
theorem many_fill {R : Type} (K : Int → (List En × Int × Unit) → List Int → Option R) (l : List Act) (hl : l.length ≤ 60) (c : Int) : ∀ (m i : Nat) (t : List En × Int × Unit) (σ : Slo) (th : List Int), i + m = l.length → TG N t σ → On N σ th → th.length ≤ i →
    ∃ t' σ' th', TG N t' σ' ∧ On N σ' th' ∧ th'.length ≤ l.length ∧ ∀ x, lp (law23_TableMany.R0 K) (x + m + 1) (l, c, (i : Int), t, th) = K c t' th' := by
  intro m
  induction m with
  | zero =>
    intro i t σ th hi h ho hth
    obtain rfl : i = l.length := by omega
    refine ⟨t, σ, th, h, ho, hth, fun x => ?_⟩
    rw [lp_succ, law23_TableMany.R0_eq, law23_TableMany.round0, decide_eq_false (by omega)]
    rfl
  | succ m ih =>
    intro i t σ th hi h ho hth
    generalize hk : (l.getD i dAct).2.1 = k
    obtain ⟨d, hf⟩ := h.inv.find k
    obtain ⟨p1, t', p2, p3⟩ := h.put (v := 5) hf
    have hc := put_on (v := 5) h.size h.inv hf ho
    obtain ⟨t2, σ2, th2, q1, q2, q3, q4⟩ := ih (i + 1) t' _ (bif (putA N σ k 5 (P N (hm N) k d)).2 then th ++ [k] else th) (by omega) p3 hc (by
      cases (putA N σ k 5 (P N (hm N) k d)).2
      · simp only [cond_false]; omega
      · simp only [cond_true, List.length_append, List.length_singleton]; omega)
    refine ⟨t2, σ2, th2, q1, q2, q3, fun x => ?_⟩
    rw [show x + (m + 1) + 1 = (x + m + 1) + 1 by omega, lp_succ, law23_TableMany.R0_eq, law23_TableMany.round0]
    have hd : ∀ y, l.getD (Int.toNat (i : Int)) (Ty.dflt (Ty.pair (Ty.int .u8) (Ty.pair (Ty.int .u32) (Ty.pair (Ty.int .i64) Ty.unit)))) = y ↔ l.getD i dAct = y := fun y => Iff.rfl
    have hk2 : (l.getD (Int.toNat (i : Int)) (Ty.dflt (Ty.pair (Ty.int .u8) (Ty.pair (Ty.int .u32) (Ty.pair (Ty.int .i64) Ty.unit)))) : Act).2.1 = k := hk
    have hr : roomOk (th.length + 1) 4 = true := by unfold roomOk; rw [decide_eq_true (by omega), decide_eq_true (by omega)]; rfl
    simp only [in_range (show i < l.length by omega), hk2, p1, p2, hr, cond_true, Bool.and_true, Bool.or_true]
    rw [decide_eq_true (by omega), wrap64 (by omega) (by omega)]
    exact q4 x
theorem many_empty {R : Type} (K : Int → (List En × Int × Unit) → Option R) (th : List Int) (hth : th.length ≤ 60) (c : Int) : ∀ (m : Nat) (t : List En × Int × Unit) (σ : Slo), m ≤ th.length → TG N t σ → On N σ (th.take m) →
    ∃ t' σ', TG N t' σ' ∧ On N σ' [] ∧ ∀ x, lp (law23_TableMany.R2 K) (x + m + 1) (c, (m : Int) - 1, t, th) = K c t' := by
  intro m
  induction m with
  | zero =>
    intro t σ hm h ho
    refine ⟨t, σ, h, ho, fun x => ?_⟩
    rw [lp_succ, law23_TableMany.R2_eq, law23_TableMany.round2, decide_eq_false (by omega)]
    rfl
  | succ m ih =>
    intro t σ hm' h ho
    generalize hk : th.getD m 0 = k
    obtain ⟨d, hf⟩ := h.inv.find k
    obtain ⟨p1, t', τ, b, p2, p3, p4⟩ := h.del hf
    obtain ⟨r1, r2, r3, r4⟩ := p4.spec h.size h.inv hf
    have ho2 : On N τ (th.take m) := fun k' v' hh => by
      obtain ⟨g1, g2⟩ := (r2 k' v').1 hh
      have := ho k' v' g2
      rw [List.take_add_one, List.mem_append] at this
      rcases this with h1 | h1
      · exact h1
      · rw [List.getD_eq_getElem?_getD] at hk
        cases hx : th[m]? with
        | none => rw [hx] at h1; simp at h1
        | some y =>
          rw [hx] at h1 hk
          simp at h1 hk
          exact absurd (h1.trans hk) g1
    obtain ⟨t2, σ2, q1, q2, q3⟩ := ih t' τ (by omega) p3 ho2
    refine ⟨t2, σ2, q1, q2, fun x => ?_⟩
    rw [show x + (m + 1) + 1 = (x + m + 1) + 1 by omega, lp_succ, law23_TableMany.R2_eq, law23_TableMany.round2, show ((m + 1 : Nat) : Int) - 1 = (m : Int) by omega]
    simp only [in_range (show m < th.length by omega), Int.toNat_natCast, hk, p1, p2, cond_true]
    rw [decide_eq_true (show (m : Int) ≥ 0 by omega), wrap64 (by omega) (by omega)]
    exact q3 x
theorem many_check {R : Type} (K : Int → Bool → (List En × Int × Unit) → List Int → Option R) (E : Int → (List En × Int × Unit) → List Int → Option R) (c : Int) (t : List En × Int × Unit) (hN : N ≤ 4096) (h : ∀ i, i < N → σ i = none) : ∀ (m i : Nat), i + m = N → ∀ x, lp (law23_TableMany.R4 K E) (x + m + 1) (c, (i : Int), t, pl σ N) = E c t (pl σ N) := by
  intro m
  induction m with
  | zero =>
    intro i hi x
    obtain rfl : i = N := by omega
    rw [lp_succ, law23_TableMany.R4_eq, law23_TableMany.round4, pl_length, decide_eq_false (by omega)]
    rfl
  | succ m ih =>
    intro i hi x
    rw [show x + (m + 1) + 1 = (x + m + 1) + 1 by omega, lp_succ, law23_TableMany.R4_eq, law23_TableMany.round4]
    have hg : (pl σ N).getD i 0 = -1 := by
      rw [pl, List.getD_eq_getElem?_getD, List.getElem?_map, List.getElem?_range (by omega)]
      simp [h i (by omega), plv]
    simp only [pl_length, in_range (show i < N by omega), Int.toNat_natCast, hg, cond_true, bne_self_eq_false, cond_false]
    rw [decide_eq_true (by omega), wrap64 (by omega) (by omega)]
    exact ih (i + 1) (by omega) x
theorem many_true (a0 : List Act) (a1 : Int) : law23_TableMany.pre a0 a1 = true ∧ law23_TableMany a0 a1 = true := by
  refine law23_TableMany.of_opt _ _ ?_
  unfold law23_TableMany.opt law23_TableMany.tree
  by_cases hl : (a0.length : Int) > 60
  · rw [decide_eq_true hl]; rfl
  · rw [decide_eq_false hl]
    generalize hn : IntKind.wrap .i64 (Int.tmod a1 100) = n
    obtain ⟨n1, n2⟩ := new_t n
    have hle := n2.size.le
    obtain ⟨t1, σ1, th1, p1, p2, p3, p4⟩ := many_fill (N := (tsz n).toNat) (fun e0 e1 e2 => law23_TableMany.loop2 e0 (IntKind.wrap .i64 ((e2.length : Int) - 1)) e1 e2 fun e0 e1 => bif table_Places.pre (e1.1, e1.2.1, e1.2.2) then law23_TableMany.loop4 e0 (0 : Int) e1 (table_Places (e1.1, e1.2.1, e1.2.2)) (fun e0 e1 e2 e3 => some e1) fun e0 e1 e2 => bif !table_Len (e1.1, e1.2.1, e1.2.2) == (0 : Int) || table_New.pre (IntKind.wrap .i64 (Int.tmod e0 (100 : Int))) && table_Places.pre ((table_New (IntKind.wrap .i64 (Int.tmod e0 (100 : Int)))).1, (table_New (IntKind.wrap .i64 (Int.tmod e0 (100 : Int)))).2.1, (table_New (IntKind.wrap .i64 (Int.tmod e0 (100 : Int)))).2.2) then some (table_Len (e1.1, e1.2.1, e1.2.2) == (0 : Int) && ((e2.length : Int) == ((table_Places ((table_New (IntKind.wrap .i64 (Int.tmod e0 (100 : Int)))).1, (table_New (IntKind.wrap .i64 (Int.tmod e0 (100 : Int)))).2.1, (table_New (IntKind.wrap .i64 (Int.tmod e0 (100 : Int)))).2.2)).length : Int))) else none else none) a0 (by omega) a1 a0.length 0 (table_New n) em [] (by omega) n2 (fun k v ⟨i, _, h⟩ => by cases h) (Nat.zero_le _)
    obtain ⟨t2, σ2, q1, q2, q3⟩ := many_empty (N := (tsz n).toNat) (fun e0 e1 => bif table_Places.pre (e1.1, e1.2.1, e1.2.2) then law23_TableMany.loop4 e0 (0 : Int) e1 (table_Places (e1.1, e1.2.1, e1.2.2)) (fun e0 e1 e2 e3 => some e1) fun e0 e1 e2 => bif !table_Len (e1.1, e1.2.1, e1.2.2) == (0 : Int) || table_New.pre (IntKind.wrap .i64 (Int.tmod e0 (100 : Int))) && table_Places.pre ((table_New (IntKind.wrap .i64 (Int.tmod e0 (100 : Int)))).1, (table_New (IntKind.wrap .i64 (Int.tmod e0 (100 : Int)))).2.1, (table_New (IntKind.wrap .i64 (Int.tmod e0 (100 : Int)))).2.2) then some (table_Len (e1.1, e1.2.1, e1.2.2) == (0 : Int) && ((e2.length : Int) == ((table_Places ((table_New (IntKind.wrap .i64 (Int.tmod e0 (100 : Int)))).1, (table_New (IntKind.wrap .i64 (Int.tmod e0 (100 : Int)))).2.1, (table_New (IntKind.wrap .i64 (Int.tmod e0 (100 : Int)))).2.2)).length : Int))) else none else none) th1 (by omega) a1 th1.length t1 σ1 (Nat.le_refl _) p1 (by rw [List.take_length]; exact p2)
    have hz : ∀ i, i < (tsz n).toNat → σ2 i = none := fun i hi => by
      cases hs : σ2 i with
      | none => rfl
      | some y => exact absurd (q2 y.1 y.2 ⟨i, hi, hs⟩) (by simp)
    obtain ⟨g1, g2⟩ := q1.places
    obtain ⟨g3, g4⟩ := n2.places
    have hc : table_Len t2 = 0 := by
      show t2.2.1 = 0
      rw [q1.n, cnt_zero hz]
      rfl
    have e1 := p4 (100 - a0.length - 1)
    rw [show 100 - a0.length - 1 + a0.length + 1 = 100 by omega] at e1
    have e2 := q3 (100 - th1.length - 1)
    rw [show 100 - th1.length - 1 + th1.length + 1 = 100 by omega] at e2
    rw [n1]
    simp only [cond_true, cond_false]
    refine Eq.trans e1 ?_
    rw [wrap64 (by omega) (by omega)]
    refine Eq.trans e2 ?_
    simp only [eta3, g1, g2, cond_true]
    have e3 := many_check (N := (tsz n).toNat) (σ := σ2) (R := Bool) (fun e0 e1 e2 e3 => some e1) (fun e0 e1 e2 => bif !table_Len (e1.1, e1.2.1, e1.2.2) == (0 : Int) || table_New.pre (IntKind.wrap .i64 (Int.tmod e0 (100 : Int))) && table_Places.pre ((table_New (IntKind.wrap .i64 (Int.tmod e0 (100 : Int)))).1, (table_New (IntKind.wrap .i64 (Int.tmod e0 (100 : Int)))).2.1, (table_New (IntKind.wrap .i64 (Int.tmod e0 (100 : Int)))).2.2) then some (table_Len (e1.1, e1.2.1, e1.2.2) == (0 : Int) && ((e2.length : Int) == ((table_Places ((table_New (IntKind.wrap .i64 (Int.tmod e0 (100 : Int)))).1, (table_New (IntKind.wrap .i64 (Int.tmod e0 (100 : Int)))).2.1, (table_New (IntKind.wrap .i64 (Int.tmod e0 (100 : Int)))).2.2)).length : Int))) else none) a1 t2 hle hz (tsz n).toNat 0 (by omega) (5000 - (tsz n).toNat - 1)
    rw [show 5000 - (tsz n).toNat - 1 + (tsz n).toNat + 1 = 5000 by omega] at e3
    refine Eq.trans e3 ?_
    simp only [eta3, hn, hc, n1, g3, g4, pl_length, beq_self_eq_true, Bool.and_true, Bool.or_true, cond_true]
theorem law23_TableMany.true (a0 : List Act) (a1 : Int) : law23_TableMany a0 a1 = true := (many_true a0 a1).2
end Go.D.YtmdnddoiopgboaaDoor
