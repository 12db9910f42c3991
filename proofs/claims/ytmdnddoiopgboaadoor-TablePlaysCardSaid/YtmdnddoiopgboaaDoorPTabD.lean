/- Tables of places: new ones, places, the two programs side by side. -/
import Derived.Test.YtmdnddoiopgboaaDoorPTabC
namespace Go.D.YtmdnddoiopgboaaDoor
open Go.Proofs Tab
set_option linter.unusedVariables false
set_option linter.unusedSimpArgs false
set_option maxRecDepth 100000
variable {N : Nat} {σ : Slo} {k v : Int} {d : Nat}

def plv (x : Option (Int × Int)) : Int := match x with | some y => y.2 | none => -1
def pl (σ : Slo) (n : Nat) : List Int := (List.range n).map fun j => plv (σ j)
theorem pl_succ (σ : Slo) (n : Nat) : pl σ (n + 1) = pl σ n ++ [plv (σ n)] := by simp [pl, List.range_succ]
theorem pl_length (σ : Slo) (n : Nat) : (pl σ n).length = n := by simp [pl]
theorem set_mid (A : List Int) (m : Nat) (x : Int) : (A ++ List.replicate (m + 1) 0).set A.length x = (A ++ [x]) ++ List.replicate m 0 := by
  rw [List.set_append_right _ _ (Nat.le_refl _), Nat.sub_self, List.replicate_succ, List.set_cons_zero, List.append_assoc]
  rfl
theorem placesT (hN : Size N) {l : List En} {n : Int} (h : TOk N (l, n, ()) σ) : table_Places.opt (l, n, ()) = some (pl σ N) := by
  obtain ⟨hl, rfl, _⟩ := h
  simp only at hl
  have hle := hN.le
  have loop : ∀ {R : Type} (K : List Int → Option R) (m i : Nat), i + m = N → ∀ x, lp (table_Places.R0 K) (x + m + 1) (l, (N : Int), (i : Int), pl (aT l) i ++ List.replicate m 0) = K (pl (aT l) N) := by
    intro R K m
    induction m with
    | zero =>
      intro i hi x
      obtain rfl : i = N := by omega
      rw [lp_succ, table_Places.R0_eq, table_Places.round0, decide_eq_false (by omega)]
      simp
    | succ m ih =>
      intro i hi x
      have hlen : (pl (aT l) i ++ List.replicate (m + 1) 0).length = N := by rw [List.length_append, pl_length, List.length_replicate]; omega
      have hset : ∀ y, (pl (aT l) i ++ List.replicate (m + 1) 0).set i y = (pl (aT l) i ++ [y]) ++ List.replicate m 0 := fun y => by
        have := set_mid (pl (aT l) i) m y
        rwa [pl_length] at this
      have hlen2 : ∀ y, (pl (aT l) i ++ [y] ++ List.replicate m 0).length = N := fun y => by rw [← hset y, List.length_set, hlen]
      have hset2 : ∀ y z, (pl (aT l) i ++ [y] ++ List.replicate m 0).set i z = (pl (aT l) i ++ [z]) ++ List.replicate m 0 := fun y z => by rw [← hset y, List.set_set, hset]
      rw [show x + (m + 1) + 1 = (x + m + 1) + 1 by omega, lp_succ, table_Places.R0_eq, table_Places.round0]
      simp only [hl, hlen, in_range (show i < N by omega), cond_true, Int.toNat_natCast, dTe, hset, hset2, hlen2, Bool.true_and, decide_eq_true (Nat.zero_le i), Bool.or_true]
      rw [decide_eq_true (show (i : Int) < (N : Int) by omega), wrap64 (by omega) (by omega)]
      simp only [cond_true, Bool.or_true]
      refine Eq.trans ?_ (ih (i + 1) (by omega) x)
      have : (bif (l.getD i nilE).2.2.1 then (pl (aT l) i ++ [(l.getD i nilE).2.1]) ++ List.replicate m 0 else (pl (aT l) i ++ [-1]) ++ List.replicate m 0) = pl (aT l) (i + 1) ++ List.replicate m 0 := by
        rw [pl_succ]
        cases hs : aT l i with
        | none => rw [aT_none hs]; rfl
        | some y => rw [aT_some hs]; rfl
      rw [this]
      rfl
  unfold table_Places.opt table_Places.tree table_Places.loop0
  simp only [hl]
  rw [decide_eq_true (by omega), decide_eq_true (by omega), decide_eq_true (by omega), decide_eq_true (by omega)]
  have := loop (R := List Int) (fun e0 => some e0) N 0 (by omega) (5000 - N - 1)
  rw [show 5000 - N - 1 + N + 1 = 5000 by omega] at this
  exact this
theorem placesR (hN : Size N) {a : List Bool} {b c : List Int} (h : ROk N (a, b, c, ()) σ) : ref23_Places.opt (a, b, c, ()) = some (pl σ N) := by
  obtain ⟨h1, h2, h3, rfl⟩ := h
  simp only at h1 h2 h3
  have hle := hN.le
  have loop : ∀ {R : Type} (K : List Int → Option R) (m i : Nat), i + m = N → ∀ x, lp (ref23_Places.R0 K) (x + m + 1) ((a, b, c, ()), (i : Int), pl (aR (a, b, c, ())) i) = K (pl (aR (a, b, c, ())) N) := by
    intro R K m
    induction m with
    | zero =>
      intro i hi x
      obtain rfl : i = N := by omega
      rw [lp_succ, ref23_Places.R0_eq, ref23_Places.round0]
      simp only [h3]
      rw [decide_eq_false (by omega)]
      simp
    | succ m ih =>
      intro i hi x
      rw [show x + (m + 1) + 1 = (x + m + 1) + 1 by omega, lp_succ, ref23_Places.R0_eq, ref23_Places.round0]
      simp only [h1, h3, in_range (show i < N by omega), cond_true, Int.toNat_natCast, Bool.or_true, pl_length]
      rw [decide_eq_true (show (i : Int) < (N : Int) by omega), wrap64 (by omega) (by omega), show roomOk (i + 1) 8 = true by unfold roomOk; rw [decide_eq_true (by omega), decide_eq_true (by omega)]; rfl]
      simp only [cond_true]
      refine Eq.trans ?_ (ih (i + 1) (by omega) x)
      rw [pl_succ]
      cases hs : aR (a, b, c, ()) i with
      | none => rw [aR_none hs]; rfl
      | some y =>
        obtain ⟨s1, s2, s3⟩ := aR_some hs
        simp only at s1 s2 s3
        rw [s1, s3]; rfl
  unfold ref23_Places.opt ref23_Places.tree ref23_Places.loop0
  have := loop (R := List Int) (fun e0 => some e0) N 0 (by omega) (5000 - N - 1)
  rw [show 5000 - N - 1 + N + 1 = 5000 by omega] at this
  exact this
theorem ints_same {a : List Int} (ha : a.length ≤ 4096) : help_Ints.opt a a = some true := by
  have loop : ∀ {R : Type} (K : Bool → Option R) (E : Option R) (m i : Nat), i + m = a.length → ∀ x, lp (help_Ints.R0 K E) (x + m + 1) (a, a, (i : Int)) = E := by
    intro R K E m
    induction m with
    | zero =>
      intro i hi x
      rw [lp_succ, help_Ints.R0_eq, help_Ints.round0, decide_eq_false (by omega)]
      rfl
    | succ m ih =>
      intro i hi x
      rw [show x + (m + 1) + 1 = (x + m + 1) + 1 by omega, lp_succ, help_Ints.R0_eq, help_Ints.round0]
      simp only [in_range (show i < a.length by omega), cond_true, bne_self_eq_false, cond_false]
      rw [decide_eq_true (by omega), wrap64 (by omega) (by omega)]
      exact ih (i + 1) (by omega) x
  unfold help_Ints.opt help_Ints.tree help_Ints.loop0
  simp only [bne_self_eq_false, cond_false]
  have := loop (R := Bool) (fun e0 => some e0) (some true) a.length 0 (by omega) (5000 - a.length - 1)
  rw [show 5000 - a.length - 1 + a.length + 1 = 5000 by omega] at this
  exact this

/-! ### new ones -/
def em : Slo := fun _ => none
theorem em_inv {H : Int → Nat} (hN : 0 < N) : Tab.Inv N H em := ⟨fun _ _ _ _ h => (by cases h), ⟨0, hN, rfl⟩, fun _ _ => rfl⟩
theorem size_of (n : Int) : Size (tsz n).toNat := ⟨n, by have := tsz_mem n; omega⟩
theorem new_guard (n : Int) {b : Int} (hb : b = 24 ∨ b = 1 ∨ b = 4 ∨ b = 8) : (decide ((0 : Int) ≤ tsz n) && decide (tsz n ≤ tsz n) && decide (tsz n ≤ (9223372036854775807 : Int)) && decide (tsz n * b ≤ (140737488355328 : Int))) = true := by
  have h := tsz_mem n
  rw [decide_eq_true (by omega), decide_eq_true (by omega), decide_eq_true (by omega), decide_eq_true (by rcases hb with rfl | rfl | rfl | rfl <;> omega)]
  rfl
theorem newT (n : Int) : table_New.opt n = some (List.replicate (tsz n).toNat nilE, (0 : Int), ()) := by
  unfold table_New.opt table_New.tree
  rw [show table_width n = tsz n from rfl, new_guard n (by omega)]
  rfl
theorem newR (n : Int) : ref23_NewTable.opt n = some (List.replicate (tsz n).toNat false, List.replicate (tsz n).toNat (0 : Int), List.replicate (tsz n).toNat (0 : Int), ()) := by
  unfold ref23_NewTable.opt ref23_NewTable.tree
  rw [show ref23_Size n = tsz n from rfl, new_guard n (by omega), new_guard n (by omega), new_guard n (by omega)]
  rfl
theorem getD_rep {α : Type} (m i : Nat) (x : α) : (List.replicate m x).getD i x = x := by
  rw [List.getD_eq_getElem?_getD, List.getElem?_replicate]
  split <;> rfl
/-- what holds of the program's table between its calls -/
structure TG (N : Nat) (t : List En × Int × Unit) (σ : Slo) : Prop where
  size : Size N
  ok : TOk N t σ
  n : t.2.1 = (cnt σ N : Nat)
  inv : Tab.Inv N (hm N) σ
theorem TG.new (n : Int) : TG (tsz n).toNat (List.replicate (tsz n).toNat nilE, (0 : Int), ()) em := by
  have hN := size_of n
  refine ⟨hN, ⟨by simp, ?_, fun i _ => ?_⟩, ?_, em_inv hN.pos⟩
  · funext i
    show slE _ = _
    rw [getD_rep]
    rfl
  · simp only [getD_rep]; rfl
  · rw [cnt_zero (σ := em) (fun _ _ => rfl)]; rfl
theorem ROk.new (n : Int) : ROk (tsz n).toNat (List.replicate (tsz n).toNat false, List.replicate (tsz n).toNat (0 : Int), List.replicate (tsz n).toNat (0 : Int), ()) em := by
  refine ⟨by simp, by simp, by simp, ?_⟩
  funext i
  unfold aR
  simp only [getD_rep]
  rfl

/-! ### the program's functions, by what lies there -/
theorem putA_inv (hN : Size N) (hI : Tab.Inv N (hm N) σ) (hf : Fnd N (hm N) σ k d) : Tab.Inv N (hm N) (putA N σ k v (P N (hm N) k d)).1 := by
  unfold putA
  split
  · exact hI
  · rename_i hc
    cases hs : σ (P N (hm N) k d) with
    | none =>
      have hle := cnt_le σ N
      have : cnt σ N ≠ N := fun h => by
        obtain ⟨f, h1, h2⟩ := hI.free
        have := cnt_upd σ (some (0, 0)) (i := f) N h1
        rw [h2] at this
        have := cnt_le (upd σ f (some (0, 0))) N
        simp at *
        omega
      exact (hI.add hN.pos hf hs (by have : ¬ cnt σ N + 1 = N := fun h => hc ⟨hs, h⟩; omega)).1
    | some y =>
      have : y = (k, y.2) := by rw [← hf.stop y hs]
      exact (hI.over hN.pos hf (by rw [hs]; exact congrArg some this)).1
theorem TG.put {t : List En × Int × Unit} (h : TG N t σ) (hf : Fnd N (hm N) σ k d) : table_Put.pre t k v = true ∧ ∃ t', table_Put t k v = (t', (putA N σ k v (P N (hm N) k d)).2) ∧ TG N t' (putA N σ k v (P N (hm N) k d)).1 := by
  obtain ⟨l, n, u⟩ := t
  obtain ⟨t', h1, h2, h3⟩ := putT (v := v) h.size h.ok h.n hf
  obtain ⟨k1, k2⟩ := table_Put.of_opt _ _ _ h1
  exact ⟨k1, t', k2, h.size, h2, h3, putA_inv h.size h.inv hf⟩
theorem TG.get {t : List En × Int × Unit} (h : TG N t σ) (hf : Fnd N (hm N) σ k d) : table_Get.pre t k = true ∧ table_Get t k = getA σ (P N (hm N) k d) := by
  obtain ⟨l, n, u⟩ := t
  exact table_Get.of_opt _ _ (getT h.size h.ok hf)
/-- what is behind a Del -/
def DelA (N : Nat) (H : Int → Nat) (σ : Slo) (p : Nat) (τ : Slo) (b : Bool) : Prop := (σ p = none ∧ τ = σ ∧ b = false) ∨ (∃ y, σ p = some y ∧ Del N H (upd σ p none) ((p + 1) % N) τ ∧ b = true)
theorem DelA.unique {H : Int → Nat} {p : Nat} {τ τ' : Slo} {b b' : Bool} (h : DelA N H σ p τ b) (h' : DelA N H σ p τ' b') : τ = τ' ∧ b = b' := by
  rcases h with ⟨h1, rfl, rfl⟩ | ⟨y, h1, h2, rfl⟩ <;> rcases h' with ⟨g1, rfl, rfl⟩ | ⟨z, g1, g2, rfl⟩
  · exact ⟨rfl, rfl⟩
  · rw [h1] at g1; cases g1
  · rw [h1] at g1; cases g1
  · exact ⟨h2.unique g2, rfl⟩
theorem DelA.spec (hN : Size N) (hI : Tab.Inv N (hm N) σ) (hf : Fnd N (hm N) σ k d) {τ : Slo} {b : Bool} (h : DelA N (hm N) σ (P N (hm N) k d) τ b) : Tab.Inv N (hm N) τ ∧ (∀ k' v', Has N τ k' v' ↔ k' ≠ k ∧ Has N σ k' v') ∧ cnt τ N + (if b then 1 else 0) = cnt σ N ∧ (b = true ↔ ∃ v, Has N σ k v) := by
  have hp := P_lt (H := hm N) hN.pos k d
  rcases h with ⟨h1, rfl, rfl⟩ | ⟨y, h1, h2, rfl⟩
  · refine ⟨hI, fun k' v' => ⟨fun hh => ⟨fun e => hI.none_ hN.pos hf h1 v' (e ▸ hh), hh⟩, fun hh => hh.2⟩, by simp, ?_⟩
    simp only [Bool.false_eq_true, false_iff, not_exists]
    exact fun v => hI.none_ hN.pos hf h1 v
  · have hy : y = (k, y.2) := by rw [← hf.stop y h1]
    rw [hy] at h1
    obtain ⟨f, hL⟩ := LI.start hI hp h1
    obtain ⟨g1, g2⟩ := hI.gone hp h1
    obtain ⟨r1, r2, r3⟩ := h2.spec hL
    exact ⟨r1, fun k' v' => (r2 k' v').trans (g1 k' v'), by rw [r3]; simpa using g2, by simp only [true_iff]; exact ⟨_, _, hp, h1⟩⟩
theorem TG.del {t : List En × Int × Unit} (h : TG N t σ) (hf : Fnd N (hm N) σ k d) : table_Del.pre t k = true ∧ ∃ t' τ b, table_Del t k = (t', b) ∧ TG N t' τ ∧ DelA N (hm N) σ (P N (hm N) k d) τ b := by
  obtain ⟨l, n, u⟩ := t
  obtain ⟨h1, h2⟩ := delT h.size h.ok h.inv hf
  cases hs : σ (P N (hm N) k d) with
  | none =>
    obtain ⟨k1, k2⟩ := table_Del.of_opt _ _ (h1 hs)
    exact ⟨k1, _, σ, false, k2, h, .inl ⟨hs, rfl, rfl⟩⟩
  | some y =>
    obtain ⟨l', g1, g2, g3⟩ := h2 y hs
    obtain ⟨k1, k2⟩ := table_Del.of_opt _ _ g1
    have hA : DelA N (hm N) σ (P N (hm N) k d) (aT l') true := .inr ⟨y, hs, g3, rfl⟩
    obtain ⟨r1, r2, r3, r4⟩ := hA.spec h.size h.inv hf
    refine ⟨k1, _, aT l', true, k2, ⟨h.size, g2 _, ?_, r1⟩, hA⟩
    have hn : n = (cnt σ N : Nat) := h.n
    have hle := cnt_le σ N
    have := h.size.le
    simp only [if_true] at r3
    show IntKind.wrap .i64 (n - 1) = _
    rw [hn, wrap64 (by omega) (by omega)]
    omega
theorem TG.places {t : List En × Int × Unit} (h : TG N t σ) : table_Places.pre t = true ∧ table_Places t = pl σ N := by
  obtain ⟨l, n, u⟩ := t
  exact table_Places.of_opt _ (placesT h.size h.ok)
/-! ### the reference's -/
theorem ROk.put {w : List Bool × List Int × List Int × Unit} (hN : Size N) (h : ROk N w σ) (hf : Fnd N (hm N) σ k d) : ref23_Put.pre w k v = true ∧ ∃ w', ref23_Put w k v = (w', (putA N σ k v (P N (hm N) k d)).2) ∧ ROk N w' (putA N σ k v (P N (hm N) k d)).1 := by
  obtain ⟨a, b, c, u⟩ := w
  obtain ⟨t', h1, h2⟩ := putR (v := v) hN h hf
  obtain ⟨k1, k2⟩ := ref23_Put.of_opt _ _ _ h1
  exact ⟨k1, t', k2, h2⟩
theorem ROk.get {w : List Bool × List Int × List Int × Unit} (hN : Size N) (h : ROk N w σ) (hf : Fnd N (hm N) σ k d) : ref23_Get.pre w k = true ∧ ref23_Get w k = getA σ (P N (hm N) k d) := by
  obtain ⟨a, b, c, u⟩ := w
  exact ref23_Get.of_opt _ _ (getR hN h hf)
theorem ROk.del {w : List Bool × List Int × List Int × Unit} (hN : Size N) (h : ROk N w σ) (hI : Tab.Inv N (hm N) σ) (hf : Fnd N (hm N) σ k d) : ref23_Del.pre w k = true ∧ ∃ w' τ b, ref23_Del w k = (w', b) ∧ ROk N w' τ ∧ DelA N (hm N) σ (P N (hm N) k d) τ b := by
  obtain ⟨a, b, c, u⟩ := w
  obtain ⟨h1, h2⟩ := delR hN h hI hf
  cases hs : σ (P N (hm N) k d) with
  | none =>
    obtain ⟨k1, k2⟩ := ref23_Del.of_opt _ _ (h1 hs)
    exact ⟨k1, _, σ, false, k2, h, .inl ⟨hs, rfl, rfl⟩⟩
  | some y =>
    obtain ⟨t', g1, g2, g3⟩ := h2 y hs
    obtain ⟨k1, k2⟩ := ref23_Del.of_opt _ _ g1
    exact ⟨k1, _, aR t', true, k2, g2, .inr ⟨y, hs, g3, rfl⟩⟩
theorem ROk.len {w : List Bool × List Int × List Int × Unit} (hN : Size N) (h : ROk N w σ) : ref23_Len.pre w = true ∧ ref23_Len w = (cnt σ N : Nat) := by
  obtain ⟨a, b, c, u⟩ := w
  exact ref23_Len.of_opt _ (lenR hN h)
theorem ROk.places {w : List Bool × List Int × List Int × Unit} (hN : Size N) (h : ROk N w σ) : ref23_Places.pre w = true ∧ ref23_Places w = pl σ N := by
  obtain ⟨a, b, c, u⟩ := w
  exact ref23_Places.of_opt _ (placesR hN h)
theorem new_t (n : Int) : table_New.pre n = true ∧ TG (tsz n).toNat (table_New n) em := by
  obtain ⟨h1, h2⟩ := table_New.of_opt _ (newT n)
  exact ⟨h1, by rw [h2]; exact TG.new n⟩
theorem new_r (n : Int) : ref23_NewTable.pre n = true ∧ ROk (tsz n).toNat (ref23_NewTable n) em := by
  obtain ⟨h1, h2⟩ := ref23_NewTable.of_opt _ (newR n)
  exact ⟨h1, by rw [h2]; exact ROk.new n⟩
end Go.D.YtmdnddoiopgboaaDoor
