/- The law of full tables, in plain Lean. -/
import Derived.Test.YtmdnddoiopgboaaDoorLtab5
import Derived.Test.YtmdnddoiopgboaaDoorPTabS
namespace Go.D.YtmdnddoiopgboaaDoor
open Go.Proofs Tab
set_option linter.unusedVariables false
set_option linter.unusedSimpArgs false
set_option maxRecDepth 100000
variable {N : Nat} {σ : Slo} {k v : Int} {d : Nat}
theorem tsz_128 {n : Int} (h : n ≤ 100) : tsz n ≤ 128 := by
  have e : tsz n = (bif decide ((8 : Int) < n) then (bif decide ((16 : Int) < n) then (bif decide ((32 : Int) < n) then (bif decide ((64 : Int) < n) then (bif decide ((128 : Int) < n) then tszF 4 n else 128) else 64) else 32) else 16) else 8) := rfl
  rw [e, decide_eq_false (show ¬ (128 : Int) < n by omega)]
  cases decide ((8 : Int) < n) <;> cases decide ((16 : Int) < n) <;> cases decide ((32 : Int) < n) <;> cases decide ((64 : Int) < n) <;> simp only [cond_true, cond_false] <;> omega
theorem putA_over (hI : Tab.Inv N (hm N) σ) (hN : Size N) (hf : Fnd N (hm N) σ k d) {v0 : Int} (h : Has N σ k v0) : (putA N σ k v (P N (hm N) k d)).2 = true ∧ (∀ k' v', Has N (putA N σ k v (P N (hm N) k d)).1 k' v' ↔ (k' = k ∧ v' = v) ∨ (k' ≠ k ∧ Has N σ k' v')) ∧ cnt (putA N σ k v (P N (hm N) k d)).1 N = cnt σ N := by
  have hs := (hI.at_ hN.pos hf v0).1 h
  rw [show putA N σ k v (P N (hm N) k d) = (upd σ (P N (hm N) k d) (some (k, v)), true) from if_neg (by rw [hs]; simp)]
  refine ⟨rfl, (hI.over hN.pos hf hs).2, ?_⟩
  have := cnt_upd σ (some (k, v)) (i := P N (hm N) k d) N (P_lt hN.pos _ _)
  rw [hs] at this
  simpa using this
theorem none_of (hI : Tab.Inv N (hm N) σ) (hN : Size N) (hf : Fnd N (hm N) σ k d) (h : ∀ v0, ¬ Has N σ k v0) : σ (P N (hm N) k d) = none := by
  cases hs : σ (P N (hm N) k d) with
  | none => rfl
  | some y =>
    refine absurd ⟨_, P_lt hN.pos k d, hs.trans ?_⟩ (h y.2)
    rw [← hf.stop y hs]
theorem putA_add (hI : Tab.Inv N (hm N) σ) (hN : Size N) (hf : Fnd N (hm N) σ k d) (h : ∀ v0, ¬ Has N σ k v0) (hc : cnt σ N + 1 < N) : (putA N σ k v (P N (hm N) k d)).2 = true ∧ (∀ k' v', Has N (putA N σ k v (P N (hm N) k d)).1 k' v' ↔ (k' = k ∧ v' = v) ∨ (k' ≠ k ∧ Has N σ k' v')) ∧ cnt (putA N σ k v (P N (hm N) k d)).1 N = cnt σ N + 1 := by
  have hs := none_of hI hN hf h
  rw [show putA N σ k v (P N (hm N) k d) = (upd σ (P N (hm N) k d) (some (k, v)), true) from if_neg (fun h => by omega)]
  obtain ⟨h1, h2, h3⟩ := hI.add (v := v) hN.pos hf hs hc
  exact ⟨rfl, h2, h3⟩
theorem putA_full (hI : Tab.Inv N (hm N) σ) (hN : Size N) (hf : Fnd N (hm N) σ k d) (h : ∀ v0, ¬ Has N σ k v0) (hc : cnt σ N + 1 = N) : putA N σ k v (P N (hm N) k d) = (σ, false) := if_pos ⟨none_of hI hN hf h, hc⟩
theorem getA_has (hI : Tab.Inv N (hm N) σ) (hN : Size N) (hf : Fnd N (hm N) σ k d) (h : Has N σ k v) : getA σ (P N (hm N) k d) = (v, true) := by
  unfold getA
  rw [(hI.at_ hN.pos hf v).1 h]
theorem getA_not (hI : Tab.Inv N (hm N) σ) (hN : Size N) (hf : Fnd N (hm N) σ k d) (h : ∀ v0, ¬ Has N σ k v0) : getA σ (P N (hm N) k d) = (0, false) := by
  unfold getA
  rw [none_of hI hN hf h]

/-- so many have been put -/
def FI (N : Nat) (q : Int) (σ : Slo) (j : Nat) : Prop := cnt σ N = j ∧ ∀ k v, Has N σ k v ↔ ∃ a : Nat, a < j ∧ k = a * q ∧ v = a
theorem mul_key {q : Int} (h1 : 1 ≤ q) (h2 : q ≤ 511) {i : Nat} (hi : i ≤ 200) : IntKind.wrap .u32 (IntKind.wrap .u32 (i : Int) * q) = i * q := by
  have h0 : 0 ≤ (i : Int) * q := Int.mul_nonneg (by omega) (by omega)
  have h3 : (i : Int) * q ≤ 200 * 511 := Int.mul_le_mul (by omega) h2 (by omega) (by omega)
  rw [show IntKind.wrap .u32 (i : Int) = i by rw [IntKind.wrap_u32]; omega, IntKind.wrap_u32]
  generalize (i : Int) * q = z at *
  omega
theorem key_inj {q : Int} (h1 : 1 ≤ q) {a b : Nat} (h : (a : Int) * q = b * q) : a = b := by
  have := Int.eq_of_mul_eq_mul_right (by omega : q ≠ 0) h
  omega
theorem full_fill (hN : Size N) (h128 : N ≤ 128) {q : Int} (h1 : 1 ≤ q) (h2 : q ≤ 511) (c : Int) : ∀ (m i : Nat) (t : List En × Int × Unit) (σ : Slo), i + m = N + 3 → TG N t σ → FI N q σ (min i (N - 1)) →
    ∃ t' σ', TG N t' σ' ∧ FI N q σ' (N - 1) ∧ ∀ {R : Type} (K : Int → Int → Int → Int → (List En × Int × Unit) → Option R) (x : Nat), lp (law23_TableFull.R0 K) (x + m + 1) (c, (N : Int), q, ((min i (N - 1) : Nat) : Int), (i : Int), t) = K c (N : Int) q ((N - 1 : Nat) : Int) t' := by
  have hpos := hN.pos
  have h8 : 8 ≤ N := by have := hN.cases; omega
  intro m
  induction m with
  | zero =>
    intro i t σ hi h hF
    have hmin : min i (N - 1) = N - 1 := by omega
    rw [hmin] at hF ⊢
    refine ⟨t, σ, h, hF, fun {R} K x => ?_⟩
    rw [lp_succ, law23_TableFull.R0_eq, law23_TableFull.round0, wrap64 (x := (N : Int) + 3) (by omega) (by omega), decide_eq_false (by omega)]
    rfl
  | succ m ih =>
    intro i t σ hi h hF
    obtain ⟨d, hf⟩ := h.inv.find ((i : Int) * q)
    obtain ⟨p1, t', p2, p3⟩ := h.put (v := (i : Int)) hf
    have hnot : ∀ v0, ¬ Has N σ ((i : Int) * q) v0 := fun v0 hh => by
      obtain ⟨a, g1, g2, _⟩ := (hF.2 _ _).1 hh
      have := key_inj h1 g2
      omega
    have hpos2 : ∃ j, (if (putA N σ ((i : Int) * q) i (P N (hm N) ((i : Int) * q) d)).2 then min i (N - 1) + 1 else min i (N - 1)) = min (i + 1) (N - 1) ∧ FI N q (putA N σ ((i : Int) * q) i (P N (hm N) ((i : Int) * q) d)).1 (min (i + 1) (N - 1)) ∧ j = 0 := by
      by_cases hlt : i < N - 1
      · have e0 : min i (N - 1) = i := by omega
        have e1 : min (i + 1) (N - 1) = i + 1 := by omega
        rw [e0] at hF ⊢
        rw [e1]
        have hc := hF.1
        obtain ⟨r1, r2, r3⟩ := putA_add (v := (i : Int)) h.inv hN hf hnot (by omega)
        refine ⟨0, by rw [r1]; rfl, ⟨by rw [r3, hc], fun k' v' => ?_⟩, rfl⟩
        rw [r2, hF.2]
        constructor
        · rintro (⟨rfl, rfl⟩ | ⟨g1, a, g2, g3, g4⟩)
          · exact ⟨i, by omega, rfl, rfl⟩
          · exact ⟨a, by omega, g3, g4⟩
        · rintro ⟨a, g1, g2, g3⟩
          by_cases ea : a = i
          · subst ea
            exact .inl ⟨g2, g3⟩
          · exact .inr ⟨fun e => ea (key_inj h1 (g2.symm.trans e)), a, by omega, g2, g3⟩
      · have e0 : min i (N - 1) = N - 1 := by omega
        have e1 : min (i + 1) (N - 1) = N - 1 := by omega
        rw [e0] at hF ⊢
        rw [e1]
        have hc := hF.1
        rw [putA_full (v := (i : Int)) h.inv hN hf hnot (by omega)]
        exact ⟨0, rfl, hF, rfl⟩
    obtain ⟨_, hput, hF2, _⟩ := hpos2
    obtain ⟨t2, σ2, q1, q2, q3⟩ := ih (i + 1) t' _ (by omega) p3 hF2
    refine ⟨t2, σ2, q1, q2, fun {R} K x => ?_⟩
    rw [show x + (m + 1) + 1 = (x + m + 1) + 1 by omega, lp_succ, law23_TableFull.R0_eq, law23_TableFull.round0]
    rw [mul_key h1 h2 (by omega), p1, p2, wrap64 (x := (N : Int) + 3) (by omega) (by omega), decide_eq_true (by omega), wrap64 (x := (i : Int) + 1) (by omega) (by omega)]
    simp only [cond_true]
    refine Eq.trans ?_ (q3 K x)
    have e5 : (bif (putA N σ ((i : Int) * q) i (P N (hm N) ((i : Int) * q) d)).2 then IntKind.wrap .i64 (((min i (N - 1) : Nat) : Int) + 1) else ((min i (N - 1) : Nat) : Int)) = ((min (i + 1) (N - 1) : Nat) : Int) := by
      rw [← hput, wrap64 (by omega) (by omega)]
      cases (putA N σ ((i : Int) * q) i (P N (hm N) ((i : Int) * q) d)).2 <;> simp
    rw [e5]
    rfl
/-- all but one are found -/
def GI (N : Nat) (q : Int) (g : Nat) (σ : Slo) : Prop := ∀ k v, Has N σ k v ↔ k ≠ g * q ∧ ((k = 0 ∧ v = 99) ∨ (k ≠ 0 ∧ ∃ a : Nat, a < N - 1 ∧ k = a * q ∧ v = a))
theorem full_get (hN : Size N) (h128 : N ≤ 128) {q : Int} (h1 : 1 ≤ q) (h2 : q ≤ 511) {t : List En × Int × Unit} (h : TG N t σ) {g : Nat} (hg : g < N - 1) (hG : GI N q g σ) : ∀ (m i : Nat), i + m = N - 1 →
    ∀ {R : Type} (KR : Bool → Int → Int → (List En × Int × Unit) → Option R) (K : Int → Int → (List En × Int × Unit) → Option R) (x : Nat), lp (law23_TableFull.R2 KR K) (x + m + 1) ((N : Int), q, (g : Int), (i : Int), t) = K (N : Int) q t := by
  have h8 : 8 ≤ N := by have := hN.cases; omega
  intro m
  induction m with
  | zero =>
    intro i hi R KR K x
    rw [lp_succ, law23_TableFull.R2_eq, law23_TableFull.round2, wrap64 (x := (N : Int) - 1) (by omega) (by omega), decide_eq_false (by omega)]
    rfl
  | succ m ih =>
    intro i hi R KR K x
    obtain ⟨d, hf⟩ := h.inv.find ((i : Int) * q)
    obtain ⟨p1, p2⟩ := h.get hf
    rw [show x + (m + 1) + 1 = (x + m + 1) + 1 by omega, lp_succ, law23_TableFull.R2_eq, law23_TableFull.round2]
    rw [eta3, mul_key h1 h2 (by omega), p1, p2, wrap64 (x := (N : Int) - 1) (by omega) (by omega), decide_eq_true (by omega), wrap64 (x := (i : Int) + 1) (by omega) (by omega), show IntKind.wrap .u32 (i : Int) = i by rw [IntKind.wrap_u32]; omega]
    refine Eq.trans ?_ (ih (i + 1) (by omega) KR K x)
    by_cases hig : i = g
    · subst hig
      rw [getA_not h.inv hN hf (fun v0 hh => ((hG _ _).1 hh).1 rfl)]
      simp [eqD]
    · have hne : ((i : Int) * q) ≠ g * q := fun e => hig (key_inj h1 e)
      have hv : Has N σ ((i : Int) * q) (if i = 0 then 99 else i) := by
        refine (hG _ _).2 ⟨hne, ?_⟩
        by_cases h0 : i = 0
        · subst h0
          exact .inl ⟨by simp, rfl⟩
        · refine .inr ⟨fun e => h0 (key_inj h1 (b := 0) (by simpa using e)), i, by omega, rfl, by rw [if_neg h0]⟩
      rw [getA_has h.inv hN hf hv]
      have hb1 : ((i : Int) != (g : Int)) = true := by
        have : ¬ (i : Int) = g := by omega
        simpa using this
      by_cases h0 : i = 0
      · have hb2 : ((i : Int) == 0) = true := by rw [beq_iff_eq]; omega
        have hb3 : decide ((i : Int) > 0) = false := decide_eq_false (by omega)
        rw [if_pos h0, hb1]
        simp only [hb2, hb3]
        rfl
      · have hb2 : ((i : Int) == 0) = false := by
          have : ¬ (i : Int) = 0 := by omega
          simpa using this
        rw [if_neg h0, hb1]
        simp only [hb2, bne_self_eq_false, Bool.and_false]
        rfl
theorem full_true (a0 a1 a2 : Int) (b1 : 0 ≤ a1) (c1 : a1 ≤ 255) (b2 : 0 ≤ a2) (c2 : a2 ≤ 255) : law23_TableFull.pre a0 a1 a2 = true ∧ law23_TableFull a0 a1 a2 = true := by
  refine law23_TableFull.of_opt _ _ _ ?_
  unfold law23_TableFull.opt law23_TableFull.tree
  have hn : IntKind.wrap .i64 (Int.tmod a0 70) ≤ 100 := by
    have h1 := Int.tmod_lt_of_pos a0 (show (0 : Int) < 70 by omega)
    rw [IntKind.wrap_i64]
    have h2 : -70 < Int.tmod a0 70 := by
      have := Int.lt_tmod_of_pos a0 (show (0 : Int) < 70 by omega)
      omega
    omega
  generalize IntKind.wrap .i64 (Int.tmod a0 70) = n at hn
  have hz := tsz_128 hn
  obtain ⟨n1, n2⟩ := new_t n
  have hN := n2.size
  obtain ⟨g1, g2⟩ := n2.places
  have h128 : (tsz n).toNat ≤ 128 := by omega
  generalize (tsz n).toNat = N at *
  have h8 : 8 ≤ N := by have := hN.cases; omega
  have hq : IntKind.wrap .u32 (IntKind.wrap .u32 (IntKind.wrap .u32 a1 * 2) + 1) = 2 * a1 + 1 := by simp only [IntKind.wrap_u32]; omega
  rw [hq]
  obtain ⟨q, hqd⟩ : ∃ q, q = 2 * a1 + 1 := ⟨_, rfl⟩
  rw [← hqd]
  have h1 : 1 ≤ q := by omega
  have h2 : q ≤ 511 := by omega
  obtain ⟨t1, σ1, p1, p2, p3⟩ := full_fill hN h128 h1 h2 a2 (N + 3) 0 (table_New n) em (by omega) n2 (by
    rw [show min 0 (N - 1) = 0 by omega]
    exact ⟨cnt_zero (fun _ _ => rfl), fun k v => ⟨fun ⟨i, _, h⟩ => (by cases h), fun ⟨a, h, _⟩ => by omega⟩⟩)
  have e1 : ∀ {R : Type} (K : Int → Int → Int → Int → (List En × Int × Unit) → Option R), law23_TableFull.loop0 a2 (N : Int) q 0 0 (table_New n) K = K a2 (N : Int) q ((N - 1 : Nat) : Int) t1 := fun {R} K => by
    have := p3 K (5000 - (N + 3) - 1)
    rw [show 5000 - (N + 3) - 1 + (N + 3) + 1 = 5000 by omega, show min 0 (N - 1) = 0 by omega] at this
    exact this
  simp only [eta3, n1, g1, g2, pl_length, cond_true]
  rw [decide_eq_false (by omega : ¬ (N : Int) < 8)]
  simp only [cond_false]
  rw [e1]
  have hw : IntKind.wrap .i64 ((N : Int) - 1) = ((N - 1 : Nat) : Int) := by rw [wrap64 (by omega) (by omega)]; omega
  have hlen : table_Len t1 = ((N - 1 : Nat) : Int) := by
    show t1.2.1 = _
    rw [p1.n, p2.1]
  obtain ⟨d1, f1⟩ := p1.inv.find 0
  obtain ⟨u1, t2, u2, u3⟩ := p1.put (v := 99) f1
  obtain ⟨w1, w2, w3⟩ := putA_over (v := 99) (v0 := 0) p1.inv hN f1 ((p2.2 _ _).2 ⟨0, by omega, by simp, rfl⟩)
  rw [w1] at u2
  generalize (putA N σ1 0 99 (P N (hm N) 0 d1)).1 = σ2 at *
  obtain ⟨g, hg⟩ : ∃ g : Nat, (g : Int) = Int.tmod (IntKind.wrap .i64 a2) ((N - 1 : Nat) : Int) := by
    rw [wrap64 (by omega) (by omega)]
    have := Int.tmod_nonneg ((N - 1 : Nat) : Int) b2
    exact ⟨(Int.tmod a2 ((N - 1 : Nat) : Int)).toNat, by omega⟩
  have hgl : g < N - 1 := by
    have := Int.tmod_lt_of_pos (IntKind.wrap .i64 a2) (show (0 : Int) < ((N - 1 : Nat) : Int) by omega)
    omega
  have hnz : (((N - 1 : Nat) : Int) != (0 : Int)) = true := nz (by omega)
  have hgw : IntKind.wrap .u32 (g : Int) = g := by rw [IntKind.wrap_u32]; omega
  obtain ⟨d2, f2⟩ := u3.inv.find ((g : Int) * q)
  obtain ⟨x1, t3, σ3, b3, x2, x3, x4⟩ := u3.del f2
  obtain ⟨y1, y2, y3, y4⟩ := x4.spec hN u3.inv f2
  have hb3 : b3 = true := by
    refine y4.2 ?_
    by_cases hg0 : g = 0
    · exact ⟨99, (w2 _ _).2 (.inl ⟨by rw [hg0]; simp, rfl⟩)⟩
    · exact ⟨g, (w2 _ _).2 (.inr ⟨fun e => hg0 (key_inj h1 (b := 0) (by simpa using e)), (p2.2 _ _).2 ⟨g, hgl, rfl, rfl⟩⟩)⟩
  subst hb3
  have hG : GI N q g σ3 := fun k v => by
    rw [y2, w2]
    constructor
    · rintro ⟨z1, z2 | ⟨z2, z3⟩⟩
      · exact ⟨z1, .inl z2⟩
      · exact ⟨z1, .inr ⟨z2, (p2.2 _ _).1 z3⟩⟩
    · rintro ⟨z1, z2 | ⟨z2, z3⟩⟩
      · exact ⟨z1, .inl z2⟩
      · exact ⟨z1, .inr ⟨z2, (p2.2 _ _).2 z3⟩⟩
  have e2 : ∀ {R : Type} (KR : Bool → Int → Int → (List En × Int × Unit) → Option R) (K : Int → Int → (List En × Int × Unit) → Option R), law23_TableFull.loop2 (N : Int) q (g : Int) 0 t3 KR K = K (N : Int) q t3 := fun {R} KR K => by
    have := full_get hN h128 h1 h2 x3 hgl hG (N - 1) 0 (by omega) KR K (5000 - (N - 1) - 1)
    rw [show 5000 - (N - 1) - 1 + (N - 1) + 1 = 5000 by omega] at this
    exact this
  have hkey : IntKind.wrap .u32 (IntKind.wrap .u32 (IntKind.wrap .i64 ((N : Int) + 9)) * q) = ((N + 9 : Nat) : Int) * q := by
    rw [wrap64 (x := (N : Int) + 9) (by omega) (by omega), show (N : Int) + 9 = ((N + 9 : Nat) : Int) by omega]
    exact mul_key h1 h2 (by omega)
  obtain ⟨d4, f4⟩ := x3.inv.find (((N + 9 : Nat) : Int) * q)
  obtain ⟨m1, t4, m2, m3⟩ := x3.put (v := 3) f4
  simp only [if_true] at y3
  have hc1 := p2.1
  have hnot4 : ∀ v0, ¬ Has N σ3 (((N + 9 : Nat) : Int) * q) v0 := fun v0 hh => by
    rcases ((hG _ _).1 hh).2 with ⟨z1, _⟩ | ⟨_, a, z1, z2, _⟩
    · have := key_inj h1 (a := N + 9) (b := 0) (by simpa using z1)
      omega
    · have := key_inj h1 z2
      omega
  obtain ⟨r1, r2, r3⟩ := putA_add (v := 3) x3.inv hN f4 hnot4 (by omega)
  rw [r1] at m2
  have hlen4 : table_Len t4 = ((N - 1 : Nat) : Int) := by
    show t4.2.1 = _
    rw [m3.n, r3]
    omega
  simp only [hw, bne_self_eq_false, Bool.false_or, eta3, hlen, u1, u2, cond_true, cond_false, Bool.not_true, hnz, ← hg, hgw, mul_key h1 h2 (show g ≤ 200 by omega), x1, x2]
  rw [show IntKind.wrap .u32 ((g : Int) * q) = (g : Int) * q from by have := mul_key h1 h2 (show g ≤ 200 by omega); rwa [hgw] at this]
  simp only [x1, x2, cond_true, cond_false, Bool.not_true]
  rw [e2]
  simp only [hkey, m1, m2, cond_true, eta3, hlen4, hw, beq_self_eq_true, Bool.and_true]
theorem law23_TableFull.true (a0 a1 a2 : Int) (b1 : 0 ≤ a1) (c1 : a1 ≤ 255) (b2 : 0 ≤ a2) (c2 : a2 ≤ 255) : law23_TableFull a0 a1 a2 = true := (full_true a0 a1 a2 b1 c1 b2 c2).2
end Go.D.YtmdnddoiopgboaaDoor
