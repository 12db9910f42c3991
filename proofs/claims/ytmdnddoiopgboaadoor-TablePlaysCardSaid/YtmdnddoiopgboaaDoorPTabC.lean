/- Tables of places: what the two programs' functions answer. -/
import Derived.Test.YtmdnddoiopgboaaDoorPTabB
namespace Go.D.YtmdnddoiopgboaaDoor
open Go.Proofs Tab
set_option linter.unusedVariables false
set_option linter.unusedSimpArgs false
set_option maxRecDepth 100000

theorem dTe : (Ty.dflt Te : En) = nilE := rfl
theorem nil_set {l : List En} (h : ∀ i, (l.getD i nilE).2.2.1 = false → (l.getD i nilE).2.1 = 0) {p : Nat} (hp : p < l.length) {x : En} (hx : x.2.2.1 = false → x.2.1 = 0) : ∀ i, ((l.set p x).getD i nilE).2.2.1 = false → ((l.set p x).getD i nilE).2.1 = 0 := by
  intro i
  simp only [List.getD_eq_getElem?_getD]
  by_cases e : i = p
  · subst e
    rw [List.getElem?_set_self hp]
    exact hx
  · rw [List.getElem?_set_ne (Ne.symm e)]
    have := h i
    simpa only [List.getD_eq_getElem?_getD] using this
def putA (N : Nat) (σ : Slo) (k v : Int) (p : Nat) : Slo × Bool := if σ p = none ∧ cnt σ N + 1 = N then (σ, false) else (upd σ p (some (k, v)), true)
def getA (σ : Slo) (p : Nat) : Int × Bool := match σ p with | some y => (y.2, true) | none => (0, false)
variable {N : Nat} {σ : Slo} {k v : Int} {d : Nat}

theorem getT (hN : Size N) {l : List En} {n : Int} (h : TOk N (l, n, ()) σ) (hf : Fnd N (hm N) σ k d) : table_Get.opt (l, n, ()) k = some (getA σ (P N (hm N) k d)) := by
  have hp := P_lt (H := hm N) hN.pos k d
  obtain ⟨hl, rfl, hz⟩ := h
  simp only at hl hz hf
  have hfd := table_find.of_opt _ _ (findT (n := n) hN hl hf)
  unfold table_Get.opt table_Get.tree
  simp only [hfd.1, hfd.2, hl, in_range hp, cond_true, Int.toNat_natCast, dTe]
  unfold getA
  cases hs : aT l (P N (hm N) k d) with
  | none => simp only [aT_none hs, hz _ (aT_none hs)]
  | some y => simp only [aT_some hs]
theorem getR (hN : Size N) {a : List Bool} {b c : List Int} (h : ROk N (a, b, c, ()) σ) (hf : Fnd N (hm N) σ k d) : ref23_Get.opt (a, b, c, ()) k = some (getA σ (P N (hm N) k d)) := by
  have hp := P_lt (H := hm N) hN.pos k d
  obtain ⟨h1, h2, h3, rfl⟩ := h
  simp only at h1 h2 h3 hf
  have hfd := ref23_find.of_opt _ _ (findR hN h1 h2 h3 hf)
  unfold ref23_Get.opt ref23_Get.tree
  simp only [hfd.1, hfd.2, h1, h2, h3, in_range hp, cond_true, Int.toNat_natCast]
  unfold getA
  cases hs : aR (a, b, c, ()) (P N (hm N) k d) with
  | none => simp only [aR_none hs]; rfl
  | some y => simp only [(aR_some hs).1, (aR_some hs).2.2]; rfl

theorem lenR_loop (hN : Size N) {a : List Bool} {b c : List Int} (h : ROk N (a, b, c, ()) σ) {R : Type} (K : Int → Option R) : ∀ (m i : Nat), i + m = N → ∀ x, lp (ref23_Len.R0 K) (x + m + 1) ((a, b, c, ()), ((cnt σ i : Nat) : Int), (i : Int)) = K ((cnt σ N : Nat) : Int) := by
  obtain ⟨h1, h2, h3, rfl⟩ := h
  simp only at h1 h2 h3
  have hle := hN.le
  intro m
  induction m with
  | zero =>
    intro i hi x
    obtain rfl : i = N := by omega
    rw [lp_succ, ref23_Len.R0_eq, ref23_Len.round0]
    simp only [h1]
    rw [decide_eq_false (by omega)]
    rfl
  | succ m ih =>
    intro i hi x
    rw [show x + (m + 1) + 1 = (x + m + 1) + 1 by omega, lp_succ, ref23_Len.R0_eq, ref23_Len.round0]
    simp only [h1, in_range (show i < N by omega), cond_true, Int.toNat_natCast]
    rw [decide_eq_true (by omega)]
    simp only [cond_true]
    have hc := cnt_le (aR (a, b, c, ())) i
    rw [wrap64 (x := (i : Int) + 1) (by omega) (by omega), wrap64 (x := ((cnt (aR (a, b, c, ())) i : Nat) : Int) + 1) (by omega) (by omega)]
    refine Eq.trans ?_ (ih (i + 1) (by omega) x)
    have : (bif a.getD i false then ((cnt (aR (a, b, c, ())) i : Nat) : Int) + 1 else ((cnt (aR (a, b, c, ())) i : Nat) : Int)) = ((cnt (aR (a, b, c, ())) (i + 1) : Nat) : Int) := by
      rw [cnt]
      cases hs : aR (a, b, c, ()) i with
      | none => rw [aR_none hs]; simp
      | some y => rw [(aR_some hs).1]; simp
    rw [this]
    rfl
theorem lenR (hN : Size N) {a : List Bool} {b c : List Int} (h : ROk N (a, b, c, ()) σ) : ref23_Len.opt (a, b, c, ()) = some ((cnt σ N : Nat) : Int) := by
  unfold ref23_Len.opt ref23_Len.tree ref23_Len.loop0
  have hle := hN.le
  have := lenR_loop hN h (R := Int) (fun e0 => some e0) N 0 (by omega) (5000 - N - 1)
  rw [show 5000 - N - 1 + N + 1 = 5000 by omega] at this
  exact this
theorem beq_len (hN : Size N) {x : Nat} : (((x : Nat) : Int) == IntKind.wrap .i64 ((N : Int) - 1)) = decide (x + 1 = N) := by
  have := hN.le
  have := hN.pos
  rw [wrap64 (by omega) (by omega)]
  by_cases h : x + 1 = N
  · rw [decide_eq_true h]; simp; omega
  · rw [decide_eq_false h]; simp; omega
theorem putT (hN : Size N) {l : List En} {n : Int} (h : TOk N (l, n, ()) σ) (hn : n = (cnt σ N : Nat)) (hf : Fnd N (hm N) σ k d) : ∃ t', table_Put.opt (l, n, ()) k v = some (t', (putA N σ k v (P N (hm N) k d)).2) ∧ TOk N t' (putA N σ k v (P N (hm N) k d)).1 ∧ t'.2.1 = (cnt (putA N σ k v (P N (hm N) k d)).1 N : Nat) := by
  have hp := P_lt (H := hm N) hN.pos k d
  have hle := hN.le
  have hcl := cnt_le σ N
  have h0 := h
  obtain ⟨hl, hab, hz⟩ := h
  simp only at hl hz hab
  have hf0 := hf
  rw [← hab] at hf
  have hfd := table_find.of_opt _ _ (findT (n := n) hN hl hf)
  have hcu := cnt_upd σ (some (k, v)) (i := P N (hm N) k d) N hp
  have hset : ∀ n', TOk N (l.set (P N (hm N) k d) (k, v, true, ()), n', ()) (upd σ (P N (hm N) k d) (some (k, v))) := fun n' => ⟨by simpa using hl, by rw [← hab]; exact aT_set (by omega) _, nil_set hz (by omega) (fun h => by cases h)⟩
  unfold table_Put.opt table_Put.tree
  simp only [hfd.1, hfd.2, hl, in_range hp, cond_true, Int.toNat_natCast, dTe]
  rw [hn, beq_len hN]
  cases hs : σ (P N (hm N) k d) with
  | some y =>
    rw [hs] at hcu
    simp only [Option.isSome_some, if_true] at hcu
    rw [← hab] at hs
    have hs2 := hs
    rw [hab] at hs2
    rw [show putA N σ k v (P N (hm N) k d) = (upd σ (P N (hm N) k d) (some (k, v)), true) from if_neg (by rw [hs2]; simp)]
    simp only [aT_some hs, Bool.not_true, Bool.not_false, Bool.true_or, cond_true, cond_false, hl, in_range hp]
    exact ⟨_, rfl, hset _, by simp only; omega⟩
  | none =>
    rw [hs] at hcu
    simp only [Option.isSome_some, if_true, Option.isSome_none, Bool.false_eq_true, if_false, Nat.add_zero] at hcu
    have hs2 := hs
    rw [← hab] at hs
    simp only [aT_none hs, Bool.not_false, Bool.not_true, Bool.false_or, cond_true, cond_false]
    by_cases hc : cnt σ N + 1 = N
    · rw [show putA N σ k v (P N (hm N) k d) = (σ, false) from if_pos ⟨hs2, hc⟩, decide_eq_true hc]
      simp only [Bool.not_true, cond_true, cond_false]
      exact ⟨_, rfl, hn ▸ h0, rfl⟩
    · rw [show putA N σ k v (P N (hm N) k d) = (upd σ (P N (hm N) k d) (some (k, v)), true) from if_neg (fun h => hc h.2), decide_eq_false hc]
      simp only [Bool.not_false, cond_true, cond_false, hl, in_range hp]
      exact ⟨_, rfl, hset _, by simp only; rw [wrap64 (by omega) (by omega)]; omega⟩
theorem putR (hN : Size N) {a : List Bool} {b c : List Int} (h : ROk N (a, b, c, ()) σ) (hf : Fnd N (hm N) σ k d) : ∃ t', ref23_Put.opt (a, b, c, ()) k v = some (t', (putA N σ k v (P N (hm N) k d)).2) ∧ ROk N t' (putA N σ k v (P N (hm N) k d)).1 := by
  have hp := P_lt (H := hm N) hN.pos k d
  have h0 := h
  have hLen := ref23_Len.of_opt _ (lenR hN h)
  obtain ⟨h1, h2, h3, hab⟩ := h
  simp only at h1 h2 h3 hab
  have hf0 := hf
  rw [← hab] at hf
  have hfd := ref23_find.of_opt _ _ (findR hN h1 h2 h3 hf)
  have hset : ROk N (a.set (P N (hm N) k d) true, b.set (P N (hm N) k d) k, c.set (P N (hm N) k d) v, ()) (upd σ (P N (hm N) k d) (some (k, v))) := ⟨by simpa using h1, by simpa using h2, by simpa using h3, by rw [← hab]; exact aR_put (by omega) (by omega) (by omega) k v⟩
  unfold ref23_Put.opt ref23_Put.tree
  simp only [hfd.1, hfd.2, hLen.1, hLen.2, h1, h2, h3, in_range hp, cond_true, Int.toNat_natCast, Bool.or_true, beq_len hN]
  cases hs : σ (P N (hm N) k d) with
  | some y =>
    have hs2 := hs
    rw [← hab] at hs
    rw [show putA N σ k v (P N (hm N) k d) = (upd σ (P N (hm N) k d) (some (k, v)), true) from if_neg (by rw [hs2]; simp)]
    simp only [(aR_some hs).1, Bool.not_true, Bool.false_and, cond_false]
    exact ⟨_, rfl, hset⟩
  | none =>
    have hs2 := hs
    rw [← hab] at hs
    simp only [aR_none hs, Bool.not_false, Bool.true_and]
    by_cases hc : cnt σ N + 1 = N
    · rw [show putA N σ k v (P N (hm N) k d) = (σ, false) from if_pos ⟨hs2, hc⟩, decide_eq_true hc]
      simp only [cond_true]
      exact ⟨_, rfl, h0⟩
    · rw [show putA N σ k v (P N (hm N) k d) = (upd σ (P N (hm N) k d) (some (k, v)), true) from if_neg (fun h => hc h.2), decide_eq_false hc]
      simp only [cond_false]
      exact ⟨_, rfl, hset⟩

theorem next_place (hN : Size N) {j : Nat} (hj : j < N) : Int.tmod (IntKind.wrap .i64 ((j : Int) + 1)) (N : Int) = (((j + 1) % N : Nat) : Int) := by
  have := hN.le
  rw [wrap64 (by omega) (by omega), Int.tmod_eq_emod_of_nonneg (by omega), show (j : Int) + 1 = ((j + 1 : Nat) : Int) by omega, ← Int.natCast_emod]
theorem delT_loop (hN : Size N) {n : Int} {f : Nat} : ∀ (c : Nat) (l : List En) (j : Nat), (j + c) % N = f → LI N (hm N) f (aT l) j → l.length = N → (∀ i, (l.getD i nilE).2.2.1 = false → (l.getD i nilE).2.1 = 0) →
    ∃ l', (∀ {R : Type} (K : (List En × Int × Unit) → Option R) (x : Nat), lp (table_Del.R0 K) (x + c + 1) ((j : Int), (l, n, ())) = K (l', n, ())) ∧ TOk N (l', n, ()) (aT l') ∧ Del N (hm N) (aT l) j (aT l') := by
  intro c
  have exit_ : ∀ (c : Nat) (l : List En) (j : Nat), j < N → aT l j = none → l.length = N → (∀ i, (l.getD i nilE).2.2.1 = false → (l.getD i nilE).2.1 = 0) → ∃ l', (∀ {R : Type} (K : (List En × Int × Unit) → Option R) (x : Nat), lp (table_Del.R0 K) (x + c + 1) ((j : Int), (l, n, ())) = K (l', n, ())) ∧ TOk N (l', n, ()) (aT l') ∧ Del N (hm N) (aT l) j (aT l') := fun c l j hj hs hl hz => by
    refine ⟨l, fun {R} K x => ?_, ⟨hl, rfl, hz⟩, .stop hs⟩
    rw [lp_succ, table_Del.R0_eq, table_Del.round0]
    simp only [hl, in_range hj, cond_true, Int.toNat_natCast, dTe, aT_none hs, cond_false]
  induction c with
  | zero =>
    intro l j hj hL hl hz
    refine exit_ 0 l j hL.jlt ?_ hl hz
    rw [Nat.add_zero, Nat.mod_eq_of_lt hL.jlt] at hj
    rw [hj]; exact hL.free
  | succ c ih =>
    intro l j hj hL hl hz
    cases hs : aT l j with
    | none => exact exit_ (c + 1) l j hL.jlt hs hl hz
    | some y =>
      obtain ⟨k, v⟩ := y
      obtain ⟨d, q1, q2, q3, q4, q5⟩ := hL.step hs
      have hjl := hL.jlt
      have hp := P_lt (H := hm N) hN.pos k d
      have e1 : aT (l.set j ((0 : Int), (0 : Int), false, ())) = upd (aT l) j none := aT_set (by omega) _
      have hfd := table_find.of_opt _ _ (findT (n := n) hN (l := l.set j ((0 : Int), (0 : Int), false, ())) (by simpa using hl) (by rw [e1]; exact q1))
      have e2 : aT ((l.set j ((0 : Int), (0 : Int), false, ())).set (P N (hm N) k d) (k, v, true, ())) = upd (upd (aT l) j none) (P N (hm N) k d) (some (k, v)) := by
        rw [aT_set (by simp; omega), e1]
        rfl
      obtain ⟨l', r1, r2, r3⟩ := ih ((l.set j ((0 : Int), (0 : Int), false, ())).set (P N (hm N) k d) (k, v, true, ())) ((j + 1) % N) (by rw [mod_succ_add]; exact hj) (by rw [e2]; exact q3) (by simpa using hl) (nil_set (nil_set hz (by omega) (fun _ => rfl)) (by simp; omega) (fun h => by cases h))
      refine ⟨l', fun {R} K x => ?_, r2, .step hs q1 (by rw [← e2]; exact r3)⟩
      rw [show x + (c + 1) + 1 = (x + c + 1) + 1 by omega, lp_succ, table_Del.R0_eq, table_Del.round0]
      simp only [hl, in_range hjl, cond_true, Int.toNat_natCast, dTe, aT_some hs, hfd.1, hfd.2, List.length_set, in_range hp, nz hN.pos, next_place hN hjl]
      exact r1 K x
theorem delT (hN : Size N) {l : List En} {n : Int} (h : TOk N (l, n, ()) σ) (hI : Tab.Inv N (hm N) σ) (hf : Fnd N (hm N) σ k d) :
    (σ (P N (hm N) k d) = none → table_Del.opt (l, n, ()) k = some ((l, n, ()), false)) ∧ (∀ y, σ (P N (hm N) k d) = some y → ∃ l', table_Del.opt (l, n, ()) k = some ((l', IntKind.wrap .i64 (n - 1), ()), true) ∧ (∀ n', TOk N (l', n', ()) (aT l')) ∧ Del N (hm N) (upd σ (P N (hm N) k d) none) ((P N (hm N) k d + 1) % N) (aT l')) := by
  have hp := P_lt (H := hm N) hN.pos k d
  obtain ⟨hl, rfl, hz⟩ := h
  simp only at hl hz hf hI
  have hfd := table_find.of_opt _ _ (findT (n := n) hN hl hf)
  refine ⟨fun hs => ?_, fun y hs => ?_⟩
  · unfold table_Del.opt table_Del.tree
    simp only [hfd.1, hfd.2, hl, in_range hp, cond_true, Int.toNat_natCast, dTe, aT_none hs, Bool.not_false]
  · obtain ⟨k', v'⟩ := y
    obtain ⟨f, hL⟩ := LI.start hI hp hs
    have e1 : aT (l.set (P N (hm N) k d) ((0 : Int), (0 : Int), false, ())) = upd (aT l) (P N (hm N) k d) none := aT_set (by omega) _
    obtain ⟨c, hc1, hc2⟩ := dist_ex ((P N (hm N) k d + 1) % N) hL.flt
    obtain ⟨l', r1, r2, r3⟩ := delT_loop (n := n) hN c (l.set (P N (hm N) k d) ((0 : Int), (0 : Int), false, ())) ((P N (hm N) k d + 1) % N) hc2 (by rw [e1]; exact hL) (by simpa using hl) (nil_set hz (by omega) (fun _ => rfl))
    refine ⟨l', ?_, fun n' => ⟨r2.len, rfl, r2.nil⟩, by rw [← e1]; exact r3⟩
    unfold table_Del.opt table_Del.tree table_Del.loop0
    simp only [hfd.1, hfd.2, hl, in_range hp, cond_true, Int.toNat_natCast, dTe, aT_some hs, Bool.not_true, cond_false, List.length_set, nz hN.pos, next_place hN hp]
    have hle := hN.le
    have := r1 (R := (List En × Int × Unit) × Bool) (fun e0 => some ((e0.1, IntKind.wrap .i64 (e0.2.1 - 1), ()), true)) (5000 - c - 1)
    rw [show 5000 - c - 1 + c + 1 = 5000 by omega] at this
    exact this
theorem delR_loop (hN : Size N) {f : Nat} : ∀ (m : Nat) (a : List Bool) (b c : List Int) (j : Nat), (j + m) % N = f → LI N (hm N) f (aR (a, b, c, ())) j → a.length = N → b.length = N → c.length = N →
    ∃ t', (∀ {R : Type} (K : (List Bool × List Int × List Int × Unit) → Option R) (x : Nat), lp (ref23_Del.R0 K) (x + m + 1) ((j : Int), (a, b, c, ())) = K t') ∧ ROk N t' (aR t') ∧ Del N (hm N) (aR (a, b, c, ())) j (aR t') := by
  intro m
  have exit_ : ∀ (m : Nat) (a : List Bool) (b c : List Int) (j : Nat), j < N → aR (a, b, c, ()) j = none → a.length = N → b.length = N → c.length = N → ∃ t', (∀ {R : Type} (K : (List Bool × List Int × List Int × Unit) → Option R) (x : Nat), lp (ref23_Del.R0 K) (x + m + 1) ((j : Int), (a, b, c, ())) = K t') ∧ ROk N t' (aR t') ∧ Del N (hm N) (aR (a, b, c, ())) j (aR t') := fun m a b c j hj hs h1 h2 h3 => by
    refine ⟨(a, b, c, ()), fun {R} K x => ?_, ⟨h1, h2, h3, rfl⟩, .stop hs⟩
    rw [lp_succ, ref23_Del.R0_eq, ref23_Del.round0]
    simp only [h1, in_range hj, cond_true, Int.toNat_natCast, aR_none hs, cond_false]
  induction m with
  | zero =>
    intro a b c j hj hL h1 h2 h3
    refine exit_ 0 a b c j hL.jlt ?_ h1 h2 h3
    rw [Nat.add_zero, Nat.mod_eq_of_lt hL.jlt] at hj
    rw [hj]; exact hL.free
  | succ m ih =>
    intro a b c j hj hL h1 h2 h3
    cases hs : aR (a, b, c, ()) j with
    | none => exact exit_ (m + 1) a b c j hL.jlt hs h1 h2 h3
    | some y =>
      obtain ⟨k, v⟩ := y
      obtain ⟨d, q1, q2, q3, q4, q5⟩ := hL.step hs
      have hjl := hL.jlt
      have hp := P_lt (H := hm N) hN.pos k d
      have e1 : aR (a.set j false, b, c, ()) = upd (aR (a, b, c, ())) j none := aR_del (by omega)
      have hfd := ref23_find.of_opt _ _ (findR hN (a := a.set j false) (by simpa using h1) h2 h3 (by rw [e1]; exact q1))
      have e2 : aR ((a.set j false).set (P N (hm N) k d) true, b.set (P N (hm N) k d) k, c.set (P N (hm N) k d) v, ()) = upd (upd (aR (a, b, c, ())) j none) (P N (hm N) k d) (some (k, v)) := by
        rw [aR_put (by simp; omega) (by omega) (by omega), e1]
      obtain ⟨t', r1, r2, r3⟩ := ih ((a.set j false).set (P N (hm N) k d) true) (b.set (P N (hm N) k d) k) (c.set (P N (hm N) k d) v) ((j + 1) % N) (by rw [mod_succ_add]; exact hj) (by rw [e2]; exact q3) (by simpa using h1) (by simpa using h2) (by simpa using h3)
      refine ⟨t', fun {R} K x => ?_, r2, .step hs q1 (by rw [← e2]; exact r3)⟩
      rw [show x + (m + 1) + 1 = (x + m + 1) + 1 by omega, lp_succ, ref23_Del.R0_eq, ref23_Del.round0]
      obtain ⟨s1, s2, s3⟩ := aR_some hs
      simp only at s1 s2 s3
      simp only [h1, h2, h3, in_range hjl, cond_true, Int.toNat_natCast, s1, s2, s3, hfd.1, hfd.2, List.length_set, in_range hp, nz hN.pos, next_place hN hjl]
      exact r1 K x
theorem delR (hN : Size N) {a : List Bool} {b c : List Int} (h : ROk N (a, b, c, ()) σ) (hI : Tab.Inv N (hm N) σ) (hf : Fnd N (hm N) σ k d) :
    (σ (P N (hm N) k d) = none → ref23_Del.opt (a, b, c, ()) k = some ((a, b, c, ()), false)) ∧ (∀ y, σ (P N (hm N) k d) = some y → ∃ t', ref23_Del.opt (a, b, c, ()) k = some (t', true) ∧ ROk N t' (aR t') ∧ Del N (hm N) (upd σ (P N (hm N) k d) none) ((P N (hm N) k d + 1) % N) (aR t')) := by
  have hp := P_lt (H := hm N) hN.pos k d
  obtain ⟨h1, h2, h3, rfl⟩ := h
  simp only at h1 h2 h3 hf hI
  have hfd := ref23_find.of_opt _ _ (findR hN h1 h2 h3 hf)
  refine ⟨fun hs => ?_, fun y hs => ?_⟩
  · unfold ref23_Del.opt ref23_Del.tree
    simp only [hfd.1, hfd.2, h1, in_range hp, cond_true, Int.toNat_natCast, aR_none hs, Bool.not_false]
  · obtain ⟨k', v'⟩ := y
    obtain ⟨f, hL⟩ := LI.start hI hp hs
    have e1 : aR (a.set (P N (hm N) k d) false, b, c, ()) = upd (aR (a, b, c, ())) (P N (hm N) k d) none := aR_del (by omega)
    obtain ⟨m, hc1, hc2⟩ := dist_ex ((P N (hm N) k d + 1) % N) hL.flt
    obtain ⟨t', r1, r2, r3⟩ := delR_loop hN m (a.set (P N (hm N) k d) false) b c ((P N (hm N) k d + 1) % N) hc2 (by rw [e1]; exact hL) (by simpa using h1) h2 h3
    refine ⟨t', ?_, r2, by rw [← e1]; exact r3⟩
    unfold ref23_Del.opt ref23_Del.tree ref23_Del.loop0
    simp only [hfd.1, hfd.2, h1, h2, h3, in_range hp, cond_true, Int.toNat_natCast, (aR_some hs).1, Bool.not_true, cond_false, nz hN.pos, next_place hN hp]
    have hle := hN.le
    have := r1 (R := (List Bool × List Int × List Int × Unit) × Bool) (fun e0 => some (e0, true)) (5000 - m - 1)
    rw [show 5000 - m - 1 + m + 1 = 5000 by omega] at this
    exact this
end Go.D.YtmdnddoiopgboaaDoor
