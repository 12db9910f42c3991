/- Tables of places, in plain Lean: linear probing, with what is taken away closed up. -/
import Derived.Test.YtmdnddoiopgboaaDoorDX
namespace Go.D.Tab
set_option linter.unusedSimpArgs false
set_option linter.unusedVariables false

abbrev Slo := Nat → Option (Int × Int)
def upd (σ : Slo) (i : Nat) (x : Option (Int × Int)) : Slo := fun j => if j = i then x else σ j
theorem upd_same (σ : Slo) (i : Nat) (x : Option (Int × Int)) : upd σ i x i = x := by simp [upd]
theorem upd_ne (σ : Slo) {i j : Nat} (h : j ≠ i) (x : Option (Int × Int)) : upd σ i x j = σ j := by simp [upd, h]

def cnt (σ : Slo) : Nat → Nat
  | 0 => 0
  | n + 1 => cnt σ n + (if (σ n).isSome then 1 else 0)
theorem cnt_congr {σ τ : Slo} : ∀ n, (∀ i, i < n → σ i = τ i) → cnt σ n = cnt τ n
  | 0, _ => rfl
  | n + 1, h => by rw [cnt, cnt, cnt_congr n (fun i hi => h i (by omega)), h n (by omega)]
theorem cnt_upd (σ : Slo) (x : Option (Int × Int)) {i : Nat} : ∀ n, i < n → cnt (upd σ i x) n + (if (σ i).isSome then 1 else 0) = cnt σ n + (if x.isSome then 1 else 0)
  | n + 1, h => by
    rw [cnt, cnt]
    by_cases e : i = n
    · subst e
      rw [upd_same, cnt_congr i (fun j hj => upd_ne σ (by omega : j ≠ i) x)]
      omega
    · rw [upd_ne σ (by omega : n ≠ i) x]
      have := cnt_upd σ x (i := i) n (by omega)
      omega
theorem cnt_le (σ : Slo) : ∀ n, cnt σ n ≤ n
  | 0 => Nat.le_refl _
  | n + 1 => by
    rw [cnt]
    have := cnt_le σ n
    split <;> omega
theorem cnt_free {σ : Slo} : ∀ {n : Nat}, cnt σ n < n → ∃ f, f < n ∧ σ f = none
  | n + 1, h => by
    rw [cnt] at h
    cases hs : σ n with
    | none => exact ⟨n, by omega, hs⟩
    | some y =>
      rw [hs] at h
      simp only [Option.isSome_some, if_true] at h
      obtain ⟨f, h1, h2⟩ := cnt_free (σ := σ) (n := n) (by omega)
      exact ⟨f, by omega, h2⟩
theorem cnt_zero {σ : Slo} : ∀ {n : Nat}, (∀ i, i < n → σ i = none) → cnt σ n = 0
  | 0, _ => rfl
  | n + 1, h => by rw [cnt, cnt_zero (fun i hi => h i (by omega)), h n (by omega)]; rfl
theorem zero_cnt {σ : Slo} : ∀ {n : Nat}, cnt σ n = 0 → ∀ i, i < n → σ i = none
  | n + 1, h, i, hi => by
    rw [cnt] at h
    by_cases e : i = n
    · subst e
      cases hs : σ i with
      | none => rfl
      | some y => rw [hs] at h; simp at h
    · exact zero_cnt (σ := σ) (n := n) (by omega) i (by omega)
theorem least {p : Nat → Prop} : ∀ D, p D → ∃ d, d ≤ D ∧ p d ∧ ∀ e, e < d → ¬ p e := by
  intro D
  induction D using Nat.strongRecOn with
  | _ D ih =>
    intro h
    by_cases hx : ∃ e, e < D ∧ p e
    · obtain ⟨e, h1, h2⟩ := hx
      obtain ⟨d, k1, k2, k3⟩ := ih e h1 h2
      exact ⟨d, by omega, k2, k3⟩
    · exact ⟨D, Nat.le_refl _, h, fun e he hp => hx ⟨e, he, hp⟩⟩

/-- a key's place at a distance from its home -/
def P (N : Nat) (H : Int → Nat) (k : Int) (d : Nat) : Nat := (H k + d) % N
variable {N : Nat} {H : Int → Nat}
theorem P_lt (hN : 0 < N) (k : Int) (d : Nat) : P N H k d < N := Nat.mod_lt _ hN
theorem add_mod_inj {a b x : Nat} (ha : a < N) (hb : b < N) (h : (x + a) % N = (x + b) % N) : a = b := by
  have hN : 0 < N := by omega
  rw [Nat.add_mod x a, Nat.add_mod x b, Nat.mod_eq_of_lt ha, Nat.mod_eq_of_lt hb] at h
  have hy := Nat.mod_lt x hN
  generalize x % N = y at h hy
  by_cases h1 : y + a < N <;> by_cases h2 : y + b < N
  · rw [Nat.mod_eq_of_lt h1, Nat.mod_eq_of_lt h2] at h; omega
  · rw [Nat.mod_eq_of_lt h1, Nat.mod_eq_sub_mod (by omega), Nat.mod_eq_of_lt (by omega)] at h; omega
  · rw [Nat.mod_eq_of_lt h2, Nat.mod_eq_sub_mod (by omega), Nat.mod_eq_of_lt (by omega)] at h; omega
  · rw [Nat.mod_eq_sub_mod (by omega), Nat.mod_eq_of_lt (by omega), Nat.mod_eq_sub_mod (by omega : y + b ≥ N), Nat.mod_eq_of_lt (by omega)] at h; omega
theorem P_inj {k : Int} {a b : Nat} (ha : a < N) (hb : b < N) (h : P N H k a = P N H k b) : a = b := add_mod_inj ha hb h
theorem dist_ex (x : Nat) {f : Nat} (hf : f < N) : ∃ c, c < N ∧ (x + c) % N = f := by
  have hN : 0 < N := by omega
  have hy := Nat.mod_lt x hN
  refine ⟨(f + N - x % N) % N, Nat.mod_lt _ hN, ?_⟩
  rw [Nat.add_mod, Nat.mod_mod]
  generalize x % N = y at hy
  by_cases h1 : y ≤ f
  · rw [show f + N - y = f - y + N by omega, Nat.add_mod_right, Nat.mod_eq_of_lt (by omega : f - y < N), Nat.mod_eq_of_lt (by omega)]; omega
  · rw [Nat.mod_eq_of_lt (by omega : f + N - y < N), show y + (f + N - y) = f + N by omega, Nat.add_mod_right, Nat.mod_eq_of_lt hf]

/-- where a key lies, or the first free place on its way -/
structure Fnd (N : Nat) (H : Int → Nat) (σ : Slo) (k : Int) (d : Nat) : Prop where
  lt : d < N
  way : ∀ e, e < d → ∃ y, σ (P N H k e) = some y ∧ y.1 ≠ k
  stop : ∀ y, σ (P N H k d) = some y → y.1 = k
theorem Fnd.unique {σ : Slo} {k : Int} {d d' : Nat} (h : Fnd N H σ k d) (h' : Fnd N H σ k d') : d = d' := by
  rcases Nat.lt_trichotomy d d' with hlt | he | hlt
  · obtain ⟨y, h1, h2⟩ := h'.way d hlt
    exact absurd (h.stop y h1) h2
  · exact he
  · obtain ⟨y, h1, h2⟩ := h.way d' hlt
    exact absurd (h'.stop y h1) h2
theorem Fnd.ex {σ : Slo} {k : Int} {D : Nat} (hD : D < N) (h : ∀ y, σ (P N H k D) = some y → y.1 = k) : ∃ d, d ≤ D ∧ Fnd N H σ k d := by
  obtain ⟨d, h1, h2, h3⟩ := least (p := fun d => ∀ y, σ (P N H k d) = some y → y.1 = k) D h
  refine ⟨d, h1, by omega, fun e he => ?_, h2⟩
  have := h3 e he
  cases hs : σ (P N H k e) with
  | none => exact absurd (fun y hy => by rw [hs] at hy; cases hy) this
  | some y => exact ⟨y, rfl, fun hk => this fun z hz => by rw [hs] at hz; cases hz; exact hk⟩
theorem Fnd.free {σ : Slo} {f : Nat} (hf : f < N) (h : σ f = none) (k : Int) : ∃ d, Fnd N H σ k d := by
  obtain ⟨c, h1, h2⟩ := dist_ex (H k) hf
  obtain ⟨d, _, h3⟩ := Fnd.ex (H := H) (σ := σ) (k := k) h1 (fun y hy => by rw [P, h2, h] at hy; cases hy)
  exact ⟨d, h3⟩
/-- that depends on the keys alone -/
theorem Fnd.keys {σ τ : Slo} (h : ∀ i, (σ i).map (·.1) = (τ i).map (·.1)) {k : Int} {d : Nat} (hf : Fnd N H σ k d) : Fnd N H τ k d := by
  refine ⟨hf.lt, fun e he => ?_, fun y hy => ?_⟩
  · obtain ⟨y, h1, h2⟩ := hf.way e he
    have := h (P N H k e)
    rw [h1] at this
    cases hs : τ (P N H k e) with
    | none => rw [hs] at this; cases this
    | some z => rw [hs] at this; exact ⟨z, rfl, by simp at this; rw [← this]; exact h2⟩
  · have := h (P N H k d)
    rw [hy] at this
    cases hs : σ (P N H k d) with
    | none => rw [hs] at this; cases this
    | some z => rw [hs] at this; simp at this; rw [← this]; exact hf.stop z hs
/-- a free place that is filled breaks no way -/
theorem Fnd.fill {σ : Slo} {p : Nat} (hp : σ p = none) (x : Int × Int) {k : Int} {d : Nat} (hf : Fnd N H σ k d) (hd : P N H k d ≠ p) : Fnd N H (upd σ p (some x)) k d := by
  refine ⟨hf.lt, fun e he => ?_, fun y hy => ?_⟩
  · obtain ⟨y, h1, h2⟩ := hf.way e he
    exact ⟨y, by rw [upd_ne σ (fun e => by rw [e, hp] at h1; cases h1)]; exact h1, h2⟩
  · rw [upd_ne σ hd] at hy
    exact hf.stop y hy
theorem Fnd.fill_same {σ : Slo} {k v : Int} {d : Nat} (hp : σ (P N H k d) = none) (hf : Fnd N H σ k d) : Fnd N H (upd σ (P N H k d) (some (k, v))) k d := by
  refine ⟨hf.lt, fun e he => ?_, fun y hy => ?_⟩
  · obtain ⟨y, h1, h2⟩ := hf.way e he
    exact ⟨y, by rw [upd_ne σ (fun e => by rw [e, hp] at h1; cases h1)]; exact h1, h2⟩
  · rw [upd_same] at hy; cases hy; rfl

/-- all that lies there is found; there's a free place -/
structure Inv (N : Nat) (H : Int → Nat) (σ : Slo) : Prop where
  found : ∀ i, i < N → ∀ k v, σ i = some (k, v) → ∃ d, Fnd N H σ k d ∧ P N H k d = i
  free : ∃ f, f < N ∧ σ f = none
  out : ∀ i, N ≤ i → σ i = none
theorem Inv.find {σ : Slo} (h : Inv N H σ) (k : Int) : ∃ d, Fnd N H σ k d := by
  obtain ⟨f, h1, h2⟩ := h.free
  exact Fnd.free h1 h2 k
theorem Inv.inj {σ : Slo} (h : Inv N H σ) {i j : Nat} (hi : i < N) (hj : j < N) {k v v' : Int} (h1 : σ i = some (k, v)) (h2 : σ j = some (k, v')) : i = j := by
  obtain ⟨d, a1, a2⟩ := h.found i hi k v h1
  obtain ⟨d', b1, b2⟩ := h.found j hj k v' h2
  rw [← a2, ← b2, a1.unique b1]
def Has (N : Nat) (σ : Slo) (k v : Int) : Prop := ∃ i, i < N ∧ σ i = some (k, v)
/-- what lies at the place that is found -/
theorem Inv.at_ {σ : Slo} (h : Inv N H σ) (hN : 0 < N) {k : Int} {d : Nat} (hf : Fnd N H σ k d) (v : Int) : Has N σ k v ↔ σ (P N H k d) = some (k, v) := by
  constructor
  · rintro ⟨i, h1, h2⟩
    obtain ⟨d', a1, a2⟩ := h.found i h1 k v h2
    rw [hf.unique a1, a2]
    exact h2
  · intro hs
    exact ⟨_, P_lt hN _ _, hs⟩
theorem Inv.none_ {σ : Slo} (h : Inv N H σ) (hN : 0 < N) {k : Int} {d : Nat} (hf : Fnd N H σ k d) (hs : σ (P N H k d) = none) (v : Int) : ¬ Has N σ k v := by
  rw [h.at_ hN hf, hs]
  simp
/-- Put over what is there -/
theorem Inv.over {σ : Slo} (h : Inv N H σ) (hN : 0 < N) {k v0 v : Int} {d : Nat} (hf : Fnd N H σ k d) (hs : σ (P N H k d) = some (k, v0)) : Inv N H (upd σ (P N H k d) (some (k, v))) ∧ ∀ k' v', Has N (upd σ (P N H k d) (some (k, v))) k' v' ↔ (k' = k ∧ v' = v) ∨ (k' ≠ k ∧ Has N σ k' v') := by
  have hk : ∀ i, (σ i).map (·.1) = (upd σ (P N H k d) (some (k, v)) i).map (·.1) := fun i => by
    by_cases e : i = P N H k d
    · rw [e, upd_same, hs]; rfl
    · rw [upd_ne σ e]
  have hInv : Inv N H (upd σ (P N H k d) (some (k, v))) := by
    refine ⟨fun i hi k' v' hs' => ?_, ?_, fun i hi => ?_⟩
    · by_cases e : i = P N H k d
      · rw [e, upd_same] at hs'
        cases hs'
        exact ⟨d, hf.keys hk, e.symm⟩
      · rw [upd_ne σ e] at hs'
        obtain ⟨d', a1, a2⟩ := h.found i hi k' v' hs'
        exact ⟨d', a1.keys hk, a2⟩
    · obtain ⟨f, h1, h2⟩ := h.free
      exact ⟨f, h1, by rw [upd_ne σ (fun e => by rw [e, hs] at h2; cases h2)]; exact h2⟩
    · rw [upd_ne σ (fun e => by have := P_lt (H := H) hN k d; omega)]
      exact h.out i hi
  refine ⟨hInv, fun k' v' => ⟨?_, ?_⟩⟩
  · rintro ⟨i, h1, h2⟩
    by_cases e : i = P N H k d
    · rw [e, upd_same] at h2; cases h2; exact .inl ⟨rfl, rfl⟩
    · rw [upd_ne σ e] at h2
      exact .inr ⟨fun ek => e (h.inj h1 (P_lt hN _ _) (ek ▸ h2) hs), i, h1, h2⟩
  · rintro (⟨rfl, rfl⟩ | ⟨h1, i, h2, h3⟩)
    · exact ⟨_, P_lt hN _ _, upd_same _ _ _⟩
    · exact ⟨i, h2, by rw [upd_ne σ (fun e => by rw [e, hs] at h3; cases h3; exact h1 rfl)]; exact h3⟩
/-- Put into a free place, where another one stays -/
theorem Inv.add {σ : Slo} (h : Inv N H σ) (hN : 0 < N) {k v : Int} {d : Nat} (hf : Fnd N H σ k d) (hs : σ (P N H k d) = none) (hc : cnt σ N + 1 < N) : Inv N H (upd σ (P N H k d) (some (k, v))) ∧ (∀ k' v', Has N (upd σ (P N H k d) (some (k, v))) k' v' ↔ (k' = k ∧ v' = v) ∨ (k' ≠ k ∧ Has N σ k' v')) ∧ cnt (upd σ (P N H k d) (some (k, v))) N = cnt σ N + 1 := by
  have hcnt : cnt (upd σ (P N H k d) (some (k, v))) N = cnt σ N + 1 := by
    have := cnt_upd σ (some (k, v)) (i := P N H k d) N (P_lt hN _ _)
    rw [hs] at this
    simpa using this
  have hInv : Inv N H (upd σ (P N H k d) (some (k, v))) := by
    refine ⟨fun i hi k' v' hs' => ?_, cnt_free (by omega), fun i hi => ?_⟩
    · by_cases e : i = P N H k d
      · rw [e, upd_same] at hs'
        cases hs'
        exact ⟨d, hf.fill_same hs, e.symm⟩
      · rw [upd_ne σ e] at hs'
        obtain ⟨d', a1, a2⟩ := h.found i hi k' v' hs'
        exact ⟨d', a1.fill hs _ (by rw [a2]; exact e), a2⟩
    · rw [upd_ne σ (fun e => by have := P_lt (H := H) hN k d; omega)]
      exact h.out i hi
  refine ⟨hInv, fun k' v' => ⟨?_, ?_⟩, hcnt⟩
  · rintro ⟨i, h1, h2⟩
    by_cases e : i = P N H k d
    · rw [e, upd_same] at h2; cases h2; exact .inl ⟨rfl, rfl⟩
    · rw [upd_ne σ e] at h2
      exact .inr ⟨fun ek => h.none_ hN hf hs v' ⟨i, h1, ek ▸ h2⟩, i, h1, h2⟩
  · rintro (⟨rfl, rfl⟩ | ⟨h1, i, h2, h3⟩)
    · exact ⟨_, P_lt hN _ _, upd_same _ _ _⟩
    · exact ⟨i, h2, by rw [upd_ne σ (fun e => by rw [e, hs] at h3; cases h3)]; exact h3⟩

/-! ### what is taken away is closed up -/
def Pend (N : Nat) (σ : Slo) (j m : Nat) : Prop := ∃ e, e < N ∧ m = (j + e) % N ∧ ∀ e', e' ≤ e → σ ((j + e') % N) ≠ none
structure LI (N : Nat) (H : Int → Nat) (f : Nat) (σ : Slo) (j : Nat) : Prop where
  jlt : j < N
  flt : f < N
  free : σ f = none
  out : ∀ i, N ≤ i → σ i = none
  ent : ∀ m, m < N → ∀ k v, σ m = some (k, v) → ∃ d, d < N ∧ P N H k d = m ∧ (∀ e, e ≤ d → P N H k e ≠ f) ∧ (Fnd N H σ k d ∨ Pend N σ j m)
  inj : ∀ a b, a < N → b < N → ∀ k v v', σ a = some (k, v) → σ b = some (k, v') → a = b
theorem mod_succ_add (j e : Nat) : ((j + 1) % N + e) % N = (j + (e + 1)) % N := by
  rw [Nat.mod_add_mod, show j + 1 + e = j + (e + 1) by omega]
/-- of what lies on a place's way, the place is free now: it waits -/
theorem pend_of_way {σ τ : Slo} {k : Int} {d e j m : Nat} {v : Int} (hd : Fnd N H σ k d) (hm : P N H k d = m) (hs : σ m = some (k, v)) (he : e < d) (hj : P N H k e = j) (hτ : ∀ x, x ≠ j → σ x ≠ none → τ x ≠ none) : Pend N τ ((j + 1) % N) m := by
  have hlt := hd.lt
  refine ⟨d - e - 1, by omega, ?_, fun e' he' => ?_⟩
  · rw [mod_succ_add, ← hm, ← hj, P, P, Nat.mod_add_mod]
    congr 1
    omega
  · have hx : (((j + 1) % N) + e') % N = P N H k (e + 1 + e') := by
      rw [mod_succ_add, ← hj, P, P, Nat.mod_add_mod]
      congr 1
      omega
    rw [hx]
    refine hτ _ (fun h => ?_) ?_
    · have := P_inj (by omega) (by omega) (h.trans hj.symm)
      omega
    · by_cases h : e + 1 + e' = d
      · rw [h, hm, hs]; simp
      · obtain ⟨y, h1, _⟩ := hd.way (e + 1 + e') (by omega)
        rw [h1]; simp
theorem LI.start {σ : Slo} (h : Inv N H σ) {i : Nat} (hi : i < N) {k v : Int} (hs : σ i = some (k, v)) : ∃ f, LI N H f (upd σ i none) ((i + 1) % N) := by
  obtain ⟨f, hf1, hf2⟩ := h.free
  have hfi : f ≠ i := fun e => by rw [e, hs] at hf2; cases hf2
  refine ⟨f, Nat.mod_lt _ (by omega), hf1, by rw [upd_ne σ hfi]; exact hf2, fun x hx => ?_, fun m hm k' v' hm' => ?_, fun a b ha hb k' v1 v2 h1 h2 => ?_⟩
  · rw [upd_ne σ (by omega)]; exact h.out x hx
  · have hmi : m ≠ i := fun e => by rw [e, upd_same] at hm'; cases hm'
    rw [upd_ne σ hmi] at hm'
    obtain ⟨d, a1, a2⟩ := h.found m hm k' v' hm'
    refine ⟨d, a1.lt, a2, fun e he heq => ?_, ?_⟩
    · by_cases hed : e = d
      · rw [hed, a2] at heq; rw [← heq, hm'] at hf2; cases hf2
      · obtain ⟨y, h1, _⟩ := a1.way e (by omega)
        rw [heq, hf2] at h1; cases h1
    · by_cases hx : ∃ e, e < d ∧ P N H k' e = i
      · obtain ⟨e, h1, h2⟩ := hx
        exact .inr (pend_of_way a1 a2 hm' h1 h2 fun x hx hne => by rw [upd_ne σ hx]; exact hne)
      · refine .inl ⟨a1.lt, fun e he => ?_, fun y hy => ?_⟩
        · obtain ⟨y, h1, h2⟩ := a1.way e he
          exact ⟨y, by rw [upd_ne σ (fun h => hx ⟨e, he, h⟩)]; exact h1, h2⟩
        · rw [a2, upd_ne σ hmi] at hy
          rw [← a2] at hy
          exact a1.stop y hy
  · have ha' : a ≠ i := fun e => by rw [e, upd_same] at h1; cases h1
    have hb' : b ≠ i := fun e => by rw [e, upd_same] at h2; cases h2
    rw [upd_ne σ ha'] at h1
    rw [upd_ne σ hb'] at h2
    exact h.inj ha hb h1 h2
theorem LI.step {σ : Slo} {f j : Nat} (h : LI N H f σ j) {k v : Int} (hs : σ j = some (k, v)) :
    ∃ d, Fnd N H (upd σ j none) k d ∧ upd σ j none (P N H k d) = none ∧ LI N H f (upd (upd σ j none) (P N H k d) (some (k, v))) ((j + 1) % N) ∧
      (∀ k' v', Has N (upd (upd σ j none) (P N H k d) (some (k, v))) k' v' ↔ Has N σ k' v') ∧ cnt (upd (upd σ j none) (P N H k d) (some (k, v))) N = cnt σ N := by
  have hN : 0 < N := by have := h.jlt; omega
  have hjf : f ≠ j := fun e => by have := h.free; rw [e, hs] at this; cases this
  obtain ⟨d0, b1, b2, b3, _⟩ := h.ent j h.jlt k v hs
  obtain ⟨d, c1, c2⟩ := Fnd.ex (H := H) (σ := upd σ j none) (k := k) b1 (fun y hy => by rw [b2, upd_same] at hy; cases hy)
  have hp : upd σ j none (P N H k d) = none := by
    cases hx : upd σ j none (P N H k d) with
    | none => rfl
    | some y =>
      obtain ⟨k', v'⟩ := y
      have hk : k' = k := c2.stop _ hx
      subst hk
      have hne : P N H k' d ≠ j := fun e => by rw [e, upd_same] at hx; cases hx
      rw [upd_ne σ hne] at hx
      exact absurd (h.inj _ _ (P_lt hN _ _) h.jlt _ _ _ hx hs) hne
  have hpf : P N H k d ≠ f := b3 d c1
  have hpl : P N H k d < N := P_lt hN _ _
  have hcnt : cnt (upd (upd σ j none) (P N H k d) (some (k, v))) N = cnt σ N := by
    have h1 := cnt_upd (upd σ j none) (some (k, v)) (i := P N H k d) N hpl
    have h2 := cnt_upd σ none (i := j) N h.jlt
    rw [hp] at h1
    rw [hs] at h2
    simp at h1 h2
    omega
  generalize hpe : P N H k d = p at *
  have hfin : ∀ x, x ≠ p → x ≠ j → upd (upd σ j none) p (some (k, v)) x = σ x := fun x h1 h2 => by rw [upd_ne _ h1, upd_ne _ h2]
  have hne : ∀ x, x ≠ j → σ x ≠ none → upd (upd σ j none) p (some (k, v)) x ≠ none := fun x h1 h2 => by
    by_cases e : x = p
    · rw [e, upd_same]; simp
    · rw [hfin x e h1]; exact h2
  have back : ∀ m, ∀ y, upd (upd σ j none) p (some (k, v)) m = some y → m = p ∧ y = (k, v) ∨ m ≠ p ∧ m ≠ j ∧ σ m = some y := fun m y hm => by
    by_cases e : m = p
    · rw [e, upd_same] at hm; cases hm; exact .inl ⟨e, rfl⟩
    · rw [upd_ne _ e] at hm
      have : m ≠ j := fun e' => by rw [e', upd_same] at hm; cases hm
      rw [upd_ne _ this] at hm
      exact .inr ⟨e, this, hm⟩
  refine ⟨d, c2, by rw [hpe]; exact hp, ?_, ?_, by rw [hpe]; exact hcnt⟩
  · rw [hpe]
    refine ⟨Nat.mod_lt _ hN, h.flt, by rw [hfin f (Ne.symm hpf) hjf]; exact h.free, fun x hx => by rw [hfin x (by omega) (by have := h.jlt; omega)]; exact h.out x hx, fun m hm k' v' hm' => ?_, fun a b ha hb k' v1 v2 h1 h2 => ?_⟩
    · rcases back m _ hm' with ⟨e1, e2⟩ | ⟨e1, e2, e3⟩
      · cases e2
        refine ⟨d, by omega, by rw [hpe, e1], fun e he => b3 e (by omega), .inl ?_⟩
        have := c2.fill_same (v := v) (by rw [hpe]; exact hp)
        rwa [hpe] at this
      · obtain ⟨d', g1, g2, g3, g4⟩ := h.ent m hm k' v' e3
        refine ⟨d', g1, g2, g3, ?_⟩
        rcases g4 with g4 | ⟨e, q1, q2, q3⟩
        · by_cases hx : ∃ e, e < d' ∧ P N H k' e = j
          · obtain ⟨e, q1, q2⟩ := hx
            exact .inr (pend_of_way g4 g2 e3 q1 q2 hne)
          · refine .inl ⟨g1, fun e he => ?_, fun y hy => ?_⟩
            · obtain ⟨y, q1, q2⟩ := g4.way e he
              have hj : P N H k' e ≠ j := fun h => hx ⟨e, he, h⟩
              have hp' : P N H k' e ≠ p := fun h => by
                rw [← h, upd_ne σ hj, q1] at hp
                cases hp
              exact ⟨y, by rw [hfin _ hp' hj]; exact q1, q2⟩
            · rw [g2, hfin m e1 e2] at hy
              rw [← g2] at hy
              exact g4.stop y hy
        · refine .inr ?_
          have he0 : e ≠ 0 := fun h0 => by
            subst h0
            rw [Nat.add_zero, Nat.mod_eq_of_lt h.jlt] at q2
            exact e2 q2
          refine ⟨e - 1, by omega, by rw [mod_succ_add, show e - 1 + 1 = e by omega]; exact q2, fun e' he' => ?_⟩
          rw [mod_succ_add]
          refine hne _ (fun hx => ?_) (q3 (e' + 1) (by omega))
          have : (j + (e' + 1)) % N = (j + 0) % N := by rw [hx, Nat.add_zero, Nat.mod_eq_of_lt h.jlt]
          have := add_mod_inj (by omega) hN this
          omega
    · rcases back a _ h1 with ⟨e1, e2⟩ | ⟨e1, e2, e3⟩ <;> rcases back b _ h2 with ⟨f1, f2⟩ | ⟨f1, f2, f3⟩
      · rw [e1, f1]
      · cases e2
        exact absurd (h.inj b j hb h.jlt _ _ _ f3 hs) f2
      · cases f2
        exact absurd (h.inj a j ha h.jlt _ _ _ e3 hs) e2
      · exact h.inj a b ha hb _ _ _ e3 f3
  · rw [hpe]
    refine fun k' v' => ⟨?_, ?_⟩
    · rintro ⟨m, h1, h2⟩
      rcases back m _ h2 with ⟨e1, e2⟩ | ⟨e1, e2, e3⟩
      · cases e2
        exact ⟨j, h.jlt, hs⟩
      · exact ⟨m, h1, e3⟩
    · rintro ⟨m, h1, h2⟩
      by_cases e : m = j
      · rw [e, hs] at h2
        cases h2
        exact ⟨p, hpl, upd_same _ _ _⟩
      · have hmp : m ≠ p := fun e' => by
          rw [← e', upd_ne σ e, h2] at hp
          cases hp
        exact ⟨m, h1, by rw [hfin m hmp e]; exact h2⟩
theorem LI.stop {σ : Slo} {f j : Nat} (h : LI N H f σ j) (hs : σ j = none) : Inv N H σ := by
  refine ⟨fun i hi k v hi' => ?_, ⟨f, h.flt, h.free⟩, h.out⟩
  obtain ⟨d, g1, g2, g3, g4⟩ := h.ent i hi k v hi'
  rcases g4 with g4 | ⟨e, q1, q2, q3⟩
  · exact ⟨d, g4, g2⟩
  · have := q3 0 (Nat.zero_le _)
    rw [Nat.add_zero, Nat.mod_eq_of_lt h.jlt] at this
    exact absurd hs this
/-- how the closing up goes -/
inductive Del (N : Nat) (H : Int → Nat) : Slo → Nat → Slo → Prop where
  | stop {σ : Slo} {j : Nat} (h : σ j = none) : Del N H σ j σ
  | step {σ τ : Slo} {j d : Nat} {k v : Int} (h : σ j = some (k, v)) (hf : Fnd N H (upd σ j none) k d) (hr : Del N H (upd (upd σ j none) (P N H k d) (some (k, v))) ((j + 1) % N) τ) : Del N H σ j τ
theorem Del.unique {σ τ τ' : Slo} {j : Nat} (h : Del N H σ j τ) (h' : Del N H σ j τ') : τ = τ' := by
  induction h with
  | stop h => cases h' with
    | stop _ => rfl
    | step h2 _ _ => rw [h] at h2; cases h2
  | step h hf hr ih => cases h' with
    | stop h2 => rw [h] at h2; cases h2
    | step h2 hf2 hr2 =>
      rw [h] at h2
      cases h2
      cases hf.unique hf2
      exact ih hr2
theorem Del.spec {σ τ : Slo} {f j : Nat} (h : Del N H σ j τ) (hL : LI N H f σ j) : Inv N H τ ∧ (∀ k v, Has N τ k v ↔ Has N σ k v) ∧ cnt τ N = cnt σ N := by
  induction h with
  | stop h => exact ⟨hL.stop h, fun _ _ => Iff.rfl, rfl⟩
  | step h hf hr ih =>
    obtain ⟨d', q1, q2, q3, q4, q5⟩ := hL.step h
    cases hf.unique q1
    obtain ⟨r1, r2, r3⟩ := ih q3
    exact ⟨r1, fun k v => (r2 k v).trans (q4 k v), r3.trans q5⟩
/-- what was there without the one that was taken away -/
theorem Inv.gone {σ : Slo} (h : Inv N H σ) {i : Nat} (hi : i < N) {k v : Int} (hs : σ i = some (k, v)) : (∀ k' v', Has N (upd σ i none) k' v' ↔ k' ≠ k ∧ Has N σ k' v') ∧ cnt (upd σ i none) N + 1 = cnt σ N := by
  refine ⟨fun k' v' => ⟨?_, ?_⟩, ?_⟩
  · rintro ⟨m, h1, h2⟩
    have hm : m ≠ i := fun e => by rw [e, upd_same] at h2; cases h2
    rw [upd_ne σ hm] at h2
    exact ⟨fun e => hm (h.inj h1 hi (e ▸ h2) hs), m, h1, h2⟩
  · rintro ⟨h1, m, h2, h3⟩
    exact ⟨m, h2, by rw [upd_ne σ (fun e => by rw [e, hs] at h3; cases h3; exact h1 rfl)]; exact h3⟩
  · have := cnt_upd σ none (i := i) N hi
    rw [hs] at this
    simpa using this
end Go.D.Tab
