import Derived.Test.YtmdnddoiopgboaaChecked
import Derived.Test.YtmdnddoiopgboaaDX
import Derived.KernelRfl
import Derived.Test.YtmdnddoiopgboaaLregion
namespace Go.D.Ytmdnddoiopgboaa
open Go.Proofs
set_option linter.unusedVariables false
set_option linter.unusedSimpArgs false
set_option maxRecDepth 100000
noncomputable section


/-! ### law3_known -/
def law3_known.env : Env := envCons 24 seat_Regions.ctr <| envCons 27 region_Find.ctr <| envCons 25 region_Check.ctr <| envCons 29 region_May.ctr <| envCons 35 region_Exec.ctr <| envCons 31 region_Secret.ctr <| envCons 33 region_Fixed.ctr <| envNil
theorem law3_known.envOk : EnvOk Try.prog law3_known.env := envOk_cons seat_Regions.known (envOk_cons region_Find.known (envOk_cons region_Check.known (envOk_cons region_May.known (envOk_cons region_Exec.known (envOk_cons region_Secret.known (envOk_cons region_Fixed.known (envOk_nil _)))))))
def law3_known.C : Cfg := { rows := [], keep := [], adopt := [] }
def law3_known.tree {R : Type}  (ret : Bool → Option R) : Option R :=
  ret true
theorem law3_known.eq  : body Try.prog law3_known.C law3_known.env noL Try.f21 [] = law3_known.tree  (fun r0 => some ([⟨Ty.bool, r0⟩] : List DVal)) := by kernel_rfl
def law3_known  : Bool :=
  true
theorem law3_known.nice {R : Type}  (ret : Bool → Option R) : law3_known.tree  ret = ret (law3_known ) := by
  unfold law3_known.tree law3_known
  simp only [Bool.apply_cond ret]
def law3_known.ctr : Ctr := ctrOf [] fun x => .ret [⟨Ty.bool, law3_known ⟩]
theorem law3_known.known : Known Try.prog 21 law3_known.ctr :=
  known_plain law3_known.envOk mixed Try.func21 (by kernel_rfl) (by kernel_rfl) (noLoops (by kernel_rfl)) (noSpots (by kernel_rfl)) fun x rs h => by
    have u := x
    cases x
    simp only [Cmd.val_ret] at h
    exact (law3_known.eq ).trans ((law3_known.nice  (fun r0 => some ([⟨Ty.bool, r0⟩] : List DVal))).trans h)

/-! ### law3_RegionLimits -/
def law3_RegionLimits.env : Env := envCons 21 law3_known.ctr <| envCons 25 region_Check.ctr <| envNil
theorem law3_RegionLimits.envOk : EnvOk Try.prog law3_RegionLimits.env := envOk_cons law3_known.known (envOk_cons region_Check.known (envOk_nil _))
def law3_RegionLimits.T0 : Tm := ⟨fill 0 55 [(7, Sl.ref (1007 : Nat)), (8, Sl.data (Ty.int IntKind.i64)), (9, Sl.data (Ty.int IntKind.i64))], [{ k := (1007 : Nat), t := Ty.own RT, vir := true }]⟩
def law3_RegionLimits.X0_exit0 : Tm := ⟨fill 0 55 [(7, Sl.ref (1007 : Nat)), (8, Sl.data (Ty.int IntKind.i64))], [{ k := (1007 : Nat), t := Ty.own RT, vir := true }]⟩
def law3_RegionLimits.round0 {R : Type} (v0 : Int) (v1 : Int) (v2 : List (Int × Int × Bool × Bool × Bool × Bool × List Int × Unit)) (next : Int → Int → (List (Int × Int × Bool × Bool × Bool × Bool × List Int × Unit)) → Option R) (kexit0 : Int → (List (Int × Int × Bool × Bool × Bool × Bool × List Int × Unit)) → Option R) : Option R :=
  bif decide (v1 < v0) then bif roomOk (List.length v2 + (1 : Nat)) (40 : Nat) then next v0 (IntKind.wrap IntKind.i64 (v1 + (1 : Int))) (v2 ++ [(IntKind.wrap IntKind.u32 (IntKind.wrap IntKind.u32 v1 * (8 : Int)), (8 : Int), true, false, false, false, nilOf Int, ())]) else none else kexit0 v0 v2
def law3_RegionLimits.R0 {R : Type} (kexit0 : Int → (List (Int × Int × Bool × Bool × Bool × Bool × List Int × Unit)) → Option R) : (Int × Int × (List (Int × Int × Bool × Bool × Bool × Bool × List Int × Unit))) → ((Int × Int × (List (Int × Int × Bool × Bool × Bool × Bool × List Int × Unit))) → Option R) → Option R := fun (v0, v1, v2) next => law3_RegionLimits.round0 v0 v1 v2 (fun w0 w1 w2 => next (w0, w1, w2)) kexit0
theorem law3_RegionLimits.R0_eq {R : Type} (kexit0 : Int → (List (Int × Int × Bool × Bool × Bool × Bool × List Int × Unit)) → Option R) (v0 : Int) (v1 : Int) (v2 : List (Int × Int × Bool × Bool × Bool × Bool × List Int × Unit)) (next : (Int × Int × (List (Int × Int × Bool × Bool × Bool × Bool × List Int × Unit))) → Option R) : law3_RegionLimits.R0 kexit0 (v0, v1, v2) next = law3_RegionLimits.round0 v0 v1 v2 (fun w0 w1 w2 => next (w0, w1, w2)) kexit0 := rfl
def law3_regs : Nat → List Reg
  | 0 => []
  | n + 1 => law3_regs n ++ ([(((8 * n : Nat) : Int), 8, true, false, false, false, [], ())] : List Reg)
def law3_RegionLimits.loop0 {R : Type} (k i : Int) (l : List Reg) (x : Int → List Reg → Option R) : Option R :=
  match l with
  | [] => if 5 ≤ k ∧ k ≤ 10 ∧ i = 0 then x k (law3_regs k.toNat) else none
  | _ => none
theorem law3_RegionLimits.loop0_ok {R : Type} (k i : Int) (l : List Reg) (x : Int → List Reg → Option R) (r : R) (h : law3_RegionLimits.loop0 k i l x = some r) : ∃ f, lp (law3_RegionLimits.R0 x) f (k, i, l) = some r := by
  unfold law3_RegionLimits.loop0 at h
  split at h
  · split at h
    · rename_i hc
      obtain ⟨h1, h2, h3⟩ := hc
      refine ⟨11, ?_⟩
      rw [← h]
      subst h3
      rcases (by omega : k = 5 ∨ k = 6 ∨ k = 7 ∨ k = 8 ∨ k = 9 ∨ k = 10) with rfl | rfl | rfl | rfl | rfl | rfl <;> kernel_rfl
    · cases h
  · cases h
def law3_RegionLimits.C : Cfg := { rows := [], keep := [(0, [7, 8, 9], [1007]), (1000000, [6, 7, 8], [1007])], adopt := [(0, 7, 1007, RT)] }
def law3_RegionLimits.sum0 : FrV law3_RegionLimits.T0.fr × StV law3_RegionLimits.T0.st → (Ex → S → Option (List DVal)) → Option (List DVal) := fun ((v0, v1, ()), (v2, ())) K => law3_RegionLimits.loop0 v0 v1 v2 (fun e0 e1 => K (.exit 0) (pack law3_RegionLimits.X0_exit0 ((e0, ()), (e1, ()))))
def law3_RegionLimits.rnd0 : FrV law3_RegionLimits.T0.fr × StV law3_RegionLimits.T0.st → (FrV law3_RegionLimits.T0.fr × StV law3_RegionLimits.T0.st → Option (List DVal)) → (Ex → S → Option (List DVal)) → Option (List DVal) := fun ((v0, v1, ()), (v2, ())) next K => law3_RegionLimits.round0 v0 v1 v2 (fun w0 w1 w2 => next ((w0, w1, ()), (w2, ()))) (fun e0 e1 => K (.exit 0) (pack law3_RegionLimits.X0_exit0 ((e0, ()), (e1, ()))))
def law3_RegionLimits.L : Nat → Option Sum := fun i => if i = 0 then some (sumOf law3_RegionLimits.T0 law3_RegionLimits.sum0) else none
theorem law3_RegionLimits.rnd0_eq : ∀ v (r : S → Option (List DVal)) (K : Ex → S → Option (List DVal)), exec Try.prog law3_RegionLimits.C law3_RegionLimits.env law3_RegionLimits.L 0 (loopOf Try.f7 0) (pack law3_RegionLimits.T0 v) (fun e s' => match e with | .normal => r (trim law3_RegionLimits.C 0 s') | e => K e (trim law3_RegionLimits.C (0 + 1000000) s')) = law3_RegionLimits.rnd0 v (fun v' => r (pack law3_RegionLimits.T0 v')) K :=
  fun ((v0, v1, ()), (v2, ())) r K => by kernel_rfl
theorem law3_RegionLimits.lp0 (K : Ex → S → Option (List DVal)) : ∀ (n : Nat) (v0 : Int) (v1 : Int) (v2 : List (Int × Int × Bool × Bool × Bool × Bool × List Int × Unit)), lp (fun v next => law3_RegionLimits.rnd0 v next K) n ((v0, v1, ()), (v2, ())) = lp (law3_RegionLimits.R0 (fun e0 e1 => K (.exit 0) (pack law3_RegionLimits.X0_exit0 ((e0, ()), (e1, ()))))) n (v0, v1, v2) := by
  intro n
  induction n with
  | zero => intros; rfl
  | succ n ih =>
    intro v0 v1 v2
    show law3_RegionLimits.round0 v0 v1 v2 (fun w0 w1 w2 => lp (fun v next => law3_RegionLimits.rnd0 v next K) n ((w0, w1, ()), (w2, ()))) (fun e0 e1 => K (.exit 0) (pack law3_RegionLimits.X0_exit0 ((e0, ()), (e1, ())))) = law3_RegionLimits.round0 v0 v1 v2 (fun w0 w1 w2 => lp (law3_RegionLimits.R0 (fun e0 e1 => K (.exit 0) (pack law3_RegionLimits.X0_exit0 ((e0, ()), (e1, ()))))) n (w0, w1, w2)) (fun e0 e1 => K (.exit 0) (pack law3_RegionLimits.X0_exit0 ((e0, ()), (e1, ()))))
    simp only [ih]
theorem law3_RegionLimits.sum0_ok : SumOk Try.prog law3_RegionLimits.C law3_RegionLimits.env law3_RegionLimits.L 0 (loopOf Try.f7 0) := sumOk_lp (T := law3_RegionLimits.T0) (rnd := law3_RegionLimits.rnd0) (f := law3_RegionLimits.sum0) rfl law3_RegionLimits.rnd0_eq fun ((v0, v1, ()), (v2, ())) K r h => by
  obtain ⟨n, hn⟩ := law3_RegionLimits.loop0_ok v0 v1 v2 (fun e0 e1 => K (.exit 0) (pack law3_RegionLimits.X0_exit0 ((e0, ()), (e1, ())))) r h
  exact ⟨n, by rw [law3_RegionLimits.lp0]; exact hn⟩
def law3_RegionLimits.tree {R : Type} (a0 : Int) (a1 : Int) (a2 : Bool) (ret : Bool → Option R) : Option R :=
  bif a2 then law3_RegionLimits.loop0 (IntKind.wrap IntKind.i64 (IntKind.wrap IntKind.i64 (IntKind.wrap IntKind.i64 (Int.tmod a0 (6 : Int)) + (8 : Int)) - (3 : Int))) (0 : Int) (nilOf (Int × Int × Bool × Bool × Bool × Bool × List Int × Unit)) fun e0 e1 => bif decide (e0 > (8 : Int)) then bif region_Check.pre e1 then ret (region_Check e1 == (22 : Int)) else none else bif region_Check.pre e1 then ret (region_Check e1 == (0 : Int)) else none else bif decide (IntKind.wrap IntKind.u32 (IntKind.wrap IntKind.u32 ((65528 : Int) + IntKind.wrap IntKind.u32 (Int.tmod a1 (5 : Int) * (4 : Int))) + (4 : Int)) > (65536 : Int)) then bif region_Check.pre [((0 : Int), IntKind.wrap IntKind.u32 ((65528 : Int) + IntKind.wrap IntKind.u32 (Int.tmod a1 (5 : Int) * (4 : Int))), true, false, false, false, nilOf Int, ()), (IntKind.wrap IntKind.u32 ((65528 : Int) + IntKind.wrap IntKind.u32 (Int.tmod a1 (5 : Int) * (4 : Int))), (4 : Int), true, false, false, false, nilOf Int, ())] then ret (region_Check [((0 : Int), IntKind.wrap IntKind.u32 ((65528 : Int) + IntKind.wrap IntKind.u32 (Int.tmod a1 (5 : Int) * (4 : Int))), true, false, false, false, nilOf Int, ()), (IntKind.wrap IntKind.u32 ((65528 : Int) + IntKind.wrap IntKind.u32 (Int.tmod a1 (5 : Int) * (4 : Int))), (4 : Int), true, false, false, false, nilOf Int, ())] == (22 : Int)) else none else bif region_Check.pre [((0 : Int), IntKind.wrap IntKind.u32 ((65528 : Int) + IntKind.wrap IntKind.u32 (Int.tmod a1 (5 : Int) * (4 : Int))), true, false, false, false, nilOf Int, ()), (IntKind.wrap IntKind.u32 ((65528 : Int) + IntKind.wrap IntKind.u32 (Int.tmod a1 (5 : Int) * (4 : Int))), (4 : Int), true, false, false, false, nilOf Int, ())] then ret (region_Check [((0 : Int), IntKind.wrap IntKind.u32 ((65528 : Int) + IntKind.wrap IntKind.u32 (Int.tmod a1 (5 : Int) * (4 : Int))), true, false, false, false, nilOf Int, ()), (IntKind.wrap IntKind.u32 ((65528 : Int) + IntKind.wrap IntKind.u32 (Int.tmod a1 (5 : Int) * (4 : Int))), (4 : Int), true, false, false, false, nilOf Int, ())] == (0 : Int)) else none
theorem law3_RegionLimits.eq (a0 : Int) (a1 : Int) (a2 : Bool) : body Try.prog law3_RegionLimits.C law3_RegionLimits.env law3_RegionLimits.L Try.f7 [⟨Ty.int IntKind.u8, a0⟩, ⟨Ty.int IntKind.u32, a1⟩, ⟨Ty.bool, a2⟩] = law3_RegionLimits.tree a0 a1 a2 (fun r0 => some ([⟨Ty.bool, r0⟩] : List DVal)) := by kernel_rfl
def law3_RegionLimits.pre (n long : Int) (which : Bool) : Bool := decide (0 ≤ n ∧ n ≤ 255 ∧ 0 ≤ long)
def law3_RegionLimits (n long : Int) (which : Bool) : Bool := true
theorem law3_regs_ok : ∀ k : Int, 5 ≤ k → k ≤ 10 → region_Check.pre (law3_regs k.toNat) = true ∧ region_Check (law3_regs k.toNat) = bif decide (k > 8) then 22 else 0 := by
  intro k h1 h2
  rcases (by omega : k = 5 ∨ k = 6 ∨ k = 7 ∨ k = 8 ∨ k = 9 ∨ k = 10) with rfl | rfl | rfl | rfl | rfl | rfl <;> exact ⟨by kernel_rfl, by kernel_rfl⟩
theorem law3_two : ∀ m : Int, 0 ≤ m → m ≤ 4 → (bif decide (IntKind.wrap IntKind.u32 (IntKind.wrap IntKind.u32 ((65528 : Int) + IntKind.wrap IntKind.u32 (m * (4 : Int))) + (4 : Int)) > (65536 : Int)) then (22 : Int) else 0) = region_Check [((0 : Int), IntKind.wrap IntKind.u32 ((65528 : Int) + IntKind.wrap IntKind.u32 (m * (4 : Int))), true, false, false, false, [], ()), (IntKind.wrap IntKind.u32 ((65528 : Int) + IntKind.wrap IntKind.u32 (m * (4 : Int))), (4 : Int), true, false, false, false, [], ())] := by
  intro k h1 h2
  rcases (by omega : k = 0 ∨ k = 1 ∨ k = 2 ∨ k = 3 ∨ k = 4) with rfl | rfl | rfl | rfl | rfl <;> kernel_rfl
theorem law3_RegionLimits.nice {R : Type} (n long : Int) (which : Bool) (hp : law3_RegionLimits.pre n long which = true) (ret : Bool → Option R) : law3_RegionLimits.tree n long which ret = ret (law3_RegionLimits n long which) := by
  have hq : 0 ≤ n ∧ n ≤ 255 ∧ 0 ≤ long := of_decide_eq_true hp
  clear hp
  unfold law3_RegionLimits.tree law3_RegionLimits
  cases which with
  | true =>
    have hk : IntKind.wrap IntKind.i64 (IntKind.wrap IntKind.i64 (IntKind.wrap IntKind.i64 (Int.tmod n (6 : Int)) + (8 : Int)) - (3 : Int)) = n % 6 + 5 := by
      rw [Int.tmod_eq_emod_of_nonneg hq.1]
      simp only [IntKind.wrap_i64]
      omega
    rw [hk]
    simp only [Bool.cond_true]
    unfold law3_RegionLimits.loop0
    dsimp only
    rw [if_pos ⟨by omega, by omega, rfl⟩]
    obtain ⟨h1, h2⟩ := law3_regs_ok (n % 6 + 5) (by omega) (by omega)
    rw [h1, h2]
    cases decide (n % 6 + 5 > 8) <;> rfl
  | false =>
    simp only [Bool.cond_false]
    rw [(fun k => by kernel_rfl : ∀ k : Int, region_Check.pre [((0 : Int), k, true, false, false, false, [], ()), (k, (4 : Int), true, false, false, false, [], ())] = true), ← law3_two (Int.tmod long 5) (Int.tmod_nonneg _ hq.2.2) (by rw [Int.tmod_eq_emod_of_nonneg hq.2.2]; omega)]
    cases decide (IntKind.wrap IntKind.u32 (IntKind.wrap IntKind.u32 ((65528 : Int) + IntKind.wrap IntKind.u32 (Int.tmod long (5 : Int) * (4 : Int))) + (4 : Int)) > (65536 : Int)) <;> rfl
def law3_RegionLimits.ctr : Ctr := ctrOf [Ty.int IntKind.u8, Ty.int IntKind.u32, Ty.bool] fun x => .guard (law3_RegionLimits.pre (x.1) (x.2.1) (x.2.2.1)) (.ret [⟨Ty.bool, law3_RegionLimits (x.1) (x.2.1) (x.2.2.1)⟩])
theorem law3_RegionLimits.known : Known Try.prog 7 law3_RegionLimits.ctr :=
  known_plain law3_RegionLimits.envOk mixed Try.func7 (by kernel_rfl) (by kernel_rfl) (byId (by kernel_rfl : loopIds Try.f7 = [0]) (by intro q hq; simp only [List.mem_cons, List.not_mem_nil, or_false] at hq; subst hq; first | exact law3_RegionLimits.sum0_ok)) (noSpots (by kernel_rfl)) fun x rs h => by
    obtain ⟨a0, a1, a2, u⟩ := x
    cases u
    simp only [Cmd.val_guard, Cmd.val_ret] at h
    split at h <;> try (cases h; done)
    rename_i hp
    exact (law3_RegionLimits.eq a0 a1 a2).trans ((law3_RegionLimits.nice a0 a1 a2 hp (fun r0 => some ([⟨Ty.bool, r0⟩] : List DVal))).trans h)

/-! ### law3_RegionMay -/
def law3_RegionMay.env : Env := envCons 21 law3_known.ctr <| envCons 24 seat_Regions.ctr <| envCons 27 region_Find.ctr <| envCons 29 region_May.ctr <| envCons 31 region_Secret.ctr <| envNil
theorem law3_RegionMay.envOk : EnvOk Try.prog law3_RegionMay.env := envOk_cons law3_known.known (envOk_cons seat_Regions.known (envOk_cons region_Find.known (envOk_cons region_May.known (envOk_cons region_Secret.known (envOk_nil _)))))
def law3_list : List Reg := seat_Regions [] [] [] []
def U32 (a : Int) : Prop := 0 ≤ a ∧ a < 4294967296
def regs_u32 (l : List Reg) : Prop := ∀ r ∈ l, U32 r.1 ∧ U32 r.2.1
theorem region_first_spec (a e : Int) : ∀ (l : List Reg) (i j : Int), region_first a e l i = some j → 0 ≤ i → ∃ r ∈ l, l[(j - i).toNat]? = some r ∧ a ≥ r.1 ∧ e ≤ IntKind.wrap .u64 (IntKind.wrap .u64 r.1 + IntKind.wrap .u64 r.2.1)
  | [], i, j, h, _ => by cases h
  | r :: l, i, j, h, hi => by
    unfold region_first at h
    cases hc : (decide (a ≥ r.1) && decide (e ≤ IntKind.wrap .u64 (IntKind.wrap .u64 r.1 + IntKind.wrap .u64 r.2.1))) with
    | true =>
      rw [hc] at h
      simp at h
      subst h
      simp only [Bool.and_eq_true, decide_eq_true_eq] at hc
      exact ⟨r, List.mem_cons_self, by simp, hc.1, hc.2⟩
    | false =>
      rw [hc] at h
      obtain ⟨r', h1, h2, h3⟩ := region_first_spec a e l (i + 1) j h (by omega)
      have := region_first_range a e l (i + 1) j h
      refine ⟨r', List.mem_cons_of_mem _ h1, ?_, h3⟩
      rw [show (j - i).toNat = (j - (i + 1)).toNat + 1 by omega]
      simpa using h2
theorem region_Find_spec (l : List Reg) (a n : Int) (h : (region_Find l a n).2 = true) : region_Check l = 0 ∧ region_at l (region_Find l a n).1 ∈ l ∧ (region_at l (region_Find l a n).1).1 ≤ a ∧ IntKind.wrap .u64 (IntKind.wrap .u64 a + IntKind.wrap .u64 (region_size n)) ≤ IntKind.wrap .u64 (IntKind.wrap .u64 (region_at l (region_Find l a n).1).1 + IntKind.wrap .u64 (region_at l (region_Find l a n).1).2.1) := by
  unfold region_Find at h ⊢
  cases hc : region_Check l != 0 with
  | true => rw [hc] at h; cases h
  | false =>
    rw [hc] at h
    have hc : region_Check l = 0 := by simpa using hc
    simp only [Bool.cond_false] at h ⊢
    cases hf : region_first a (IntKind.wrap .u64 (IntKind.wrap .u64 a + IntKind.wrap .u64 (region_size n))) l 0 with
    | none => rw [hf] at h; cases h
    | some j =>
      obtain ⟨r, h1, h2, h3, h4⟩ := region_first_spec _ _ _ _ _ hf (Int.le_refl _)
      have : region_at l j = r := by
        unfold region_at
        rw [List.getD_eq_getElem?_getD, show j.toNat = (j - 0).toNat by omega, h2]
        rfl
      simp only
      rw [this]
      exact ⟨hc, h1, h3, h4⟩
theorem law3_sizes {n : Int} (h : n = 1 ∨ n = 2 ∨ n = 4) : region_size n = n := by
  rcases h with rfl | rfl | rfl <;> rfl
theorem law3_far (p n x1 x2 : Int) (h1 : x1 ≤ p) (hn : n = 1 ∨ n = 2 ∨ n = 4) (hp : 0 ≤ p ∧ p < 4294967296) (u1 : 0 ≤ x1 ∧ x1 < 4294967296) (u2 : 0 ≤ x2 ∧ x2 < 4294967296) (h2 : IntKind.wrap .u64 (IntKind.wrap .u64 p + IntKind.wrap .u64 n) ≤ IntKind.wrap .u64 (IntKind.wrap .u64 x1 + IntKind.wrap .u64 x2)) :
    decide (IntKind.wrap .u32 (IntKind.wrap .u32 (p - x1) + n) > x2) = false := by
  simp only [IntKind.wrap_u64] at h2
  simp only [decide_eq_false_iff_not, IntKind.wrap_u32]
  have hn4 : 1 ≤ n ∧ n ≤ 4 := by omega
  clear hn
  rw [show x1 % 18446744073709551616 = x1 by omega, show x2 % 18446744073709551616 = x2 by omega, show p % 18446744073709551616 = p by omega, show n % 18446744073709551616 = n by omega, show (x1 + x2) % 18446744073709551616 = x1 + x2 by omega, show (p + n) % 18446744073709551616 = p + n by omega] at h2
  rw [show (p - x1) % 4294967296 = p - x1 by omega]
  omega
def law3_RegionMay.T2000012 : Tm := ⟨fill 0 181 [(0, Sl.data (Ty.int IntKind.u32)), (1, Sl.data Ty.bool), (7, Sl.data (Ty.sl RT)), (8, Sl.data (Ty.int IntKind.u32)), (9, Sl.data (Ty.int IntKind.i64)), (11, Sl.data (Ty.int IntKind.u32)), (12, Sl.data (Ty.int IntKind.i64)), (13, Sl.data Ty.bool), (73, Sl.data (Ty.sl (Ty.int IntKind.u32))), (74, Sl.data (Ty.int IntKind.i64)), (75, Sl.data (Ty.int IntKind.i64))], []⟩
def law3_RegionMay.X2000012_normal : Tm := ⟨fill 0 181 [(0, Sl.data (Ty.int IntKind.u32)), (1, Sl.data Ty.bool), (7, Sl.data (Ty.sl RT)), (8, Sl.data (Ty.int IntKind.u32)), (9, Sl.data (Ty.int IntKind.i64)), (11, Sl.data (Ty.int IntKind.u32)), (12, Sl.data (Ty.int IntKind.i64)), (13, Sl.data Ty.bool), (73, Sl.data (Ty.sl (Ty.int IntKind.u32))), (74, Sl.data (Ty.int IntKind.i64)), (75, Sl.data (Ty.int IntKind.i64)), (96, Sl.data Ty.bool)], []⟩
def law3_RegionMay.o2000012 {R : Type} (v0 : Int) (v1 : Bool) (v2 : List (Int × Int × Bool × Bool × Bool × Bool × List Int × Unit)) (v3 : Int) (v4 : Int) (v5 : Int) (v6 : Int) (v7 : Bool) (v8 : List Int) (v9 : Int) (v10 : Int) (knormal : Int → Bool → (List (Int × Int × Bool × Bool × Bool × Bool × List Int × Unit)) → Int → Int → Int → Int → Bool → (List Int) → Int → Int → Bool → Option R) : Option R :=
  bif v7 then bif decide (v6 < (0 : Int)) then knormal v0 v1 v2 v3 v4 v5 v6 v7 v8 v9 v10 true else knormal v0 v1 v2 v3 v4 v5 v6 v7 v8 v9 v10 (decide (v6 ≥ ↑(List.length v2))) else knormal v0 v1 v2 v3 v4 v5 v6 v7 v8 v9 v10 false
def law3_RegionMay.s2000012 {R : Type} (v0 : Int) (v1 : Bool) (v2 : List (Int × Int × Bool × Bool × Bool × Bool × List Int × Unit)) (v3 : Int) (v4 : Int) (v5 : Int) (v6 : Int) (v7 : Bool) (v8 : List Int) (v9 : Int) (v10 : Int) (knormal : Int → Bool → (List (Int × Int × Bool × Bool × Bool × Bool × List Int × Unit)) → Int → Int → Int → Int → Bool → (List Int) → Int → Int → Bool → Option R) : Option R :=
  knormal v0 v1 v2 v3 v4 v5 v6 v7 v8 v9 v10 (v7 && (decide (v6 < (0 : Int)) || decide (v6 ≥ ↑(List.length v2))))
theorem law3_RegionMay.s2000012_eq {R : Type} (v0 : Int) (v1 : Bool) (v2 : List (Int × Int × Bool × Bool × Bool × Bool × List Int × Unit)) (v3 : Int) (v4 : Int) (v5 : Int) (v6 : Int) (v7 : Bool) (v8 : List Int) (v9 : Int) (v10 : Int) (knormal : Int → Bool → (List (Int × Int × Bool × Bool × Bool × Bool × List Int × Unit)) → Int → Int → Int → Int → Bool → (List Int) → Int → Int → Bool → Option R) : law3_RegionMay.s2000012 v0 v1 v2 v3 v4 v5 v6 v7 v8 v9 v10 knormal = law3_RegionMay.o2000012 v0 v1 v2 v3 v4 v5 v6 v7 v8 v9 v10 knormal := by
  unfold law3_RegionMay.s2000012 law3_RegionMay.o2000012
  (cases hc : v7 with | false => rfl | true => (cases hc : decide (v6 < (0 : Int)) with | false => rfl | true => rfl))
def law3_RegionMay.T2000018 : Tm := ⟨fill 0 181 [(0, Sl.data (Ty.int IntKind.u32)), (1, Sl.data Ty.bool), (7, Sl.data (Ty.sl RT)), (8, Sl.data (Ty.int IntKind.u32)), (9, Sl.data (Ty.int IntKind.i64)), (11, Sl.data (Ty.int IntKind.u32)), (12, Sl.data (Ty.int IntKind.i64)), (13, Sl.data Ty.bool), (14, Sl.data (Ty.int IntKind.i64)), (15, Sl.data (Ty.int IntKind.i64)), (73, Sl.data (Ty.sl (Ty.int IntKind.u32))), (74, Sl.data (Ty.int IntKind.i64)), (75, Sl.data (Ty.int IntKind.i64))], []⟩
def law3_RegionMay.X2000018_normal : Tm := ⟨fill 0 181 [(0, Sl.data (Ty.int IntKind.u32)), (1, Sl.data Ty.bool), (7, Sl.data (Ty.sl RT)), (8, Sl.data (Ty.int IntKind.u32)), (9, Sl.data (Ty.int IntKind.i64)), (11, Sl.data (Ty.int IntKind.u32)), (12, Sl.data (Ty.int IntKind.i64)), (13, Sl.data Ty.bool), (14, Sl.data (Ty.int IntKind.i64)), (15, Sl.data (Ty.int IntKind.i64)), (73, Sl.data (Ty.sl (Ty.int IntKind.u32))), (74, Sl.data (Ty.int IntKind.i64)), (75, Sl.data (Ty.int IntKind.i64)), (107, Sl.data Ty.bool)], []⟩
def law3_RegionMay.o2000018 {R : Type} (v0 : Int) (v1 : Bool) (v2 : List (Int × Int × Bool × Bool × Bool × Bool × List Int × Unit)) (v3 : Int) (v4 : Int) (v5 : Int) (v6 : Int) (v7 : Bool) (v8 : Int) (v9 : Int) (v10 : List Int) (v11 : Int) (v12 : Int) (knormal : Int → Bool → (List (Int × Int × Bool × Bool × Bool × Bool × List Int × Unit)) → Int → Int → Int → Int → Bool → Int → Int → (List Int) → Int → Int → Bool → Option R) : Option R :=
  bif !v7 then knormal v0 v1 v2 v3 v4 v5 v6 v7 v8 v9 v10 v11 v12 true else bif v1 then bif decide ((0 : Int) ≤ v6) && decide (v6 < ↑(List.length v2)) then bif !Prod.fst (Prod.snd (Prod.snd (Prod.snd (List.getD v2 (Int.toNat v6) (Ty.dflt RT))))) then knormal v0 v1 v2 v3 v4 v5 v6 v7 v8 v9 v10 v11 v12 true else bif !v1 then bif decide ((0 : Int) ≤ v6) && decide (v6 < ↑(List.length v2)) then knormal v0 v1 v2 v3 v4 v5 v6 v7 v8 v9 v10 v11 v12 !Prod.fst (Prod.snd (Prod.snd (List.getD v2 (Int.toNat v6) (Ty.dflt RT)))) else none else knormal v0 v1 v2 v3 v4 v5 v6 v7 v8 v9 v10 v11 v12 false else none else bif !v1 then bif decide ((0 : Int) ≤ v6) && decide (v6 < ↑(List.length v2)) then knormal v0 v1 v2 v3 v4 v5 v6 v7 v8 v9 v10 v11 v12 !Prod.fst (Prod.snd (Prod.snd (List.getD v2 (Int.toNat v6) (Ty.dflt RT)))) else none else knormal v0 v1 v2 v3 v4 v5 v6 v7 v8 v9 v10 v11 v12 false
def law3_RegionMay.s2000018 {R : Type} (v0 : Int) (v1 : Bool) (v2 : List (Int × Int × Bool × Bool × Bool × Bool × List Int × Unit)) (v3 : Int) (v4 : Int) (v5 : Int) (v6 : Int) (v7 : Bool) (v8 : Int) (v9 : Int) (v10 : List Int) (v11 : Int) (v12 : Int) (knormal : Int → Bool → (List (Int × Int × Bool × Bool × Bool × Bool × List Int × Unit)) → Int → Int → Int → Int → Bool → Int → Int → (List Int) → Int → Int → Bool → Option R) : Option R :=
  bif !v7 || bif v1 then decide ((0 : Int) ≤ v6) && decide (v6 < ↑(List.length v2)) && (!Prod.fst (Prod.snd (Prod.snd (Prod.snd (List.getD v2 (Int.toNat v6) (Ty.dflt RT))))) || (!!v1 || decide ((0 : Int) ≤ v6) && decide (v6 < ↑(List.length v2)))) else !!v1 || decide ((0 : Int) ≤ v6) && decide (v6 < ↑(List.length v2)) then knormal v0 v1 v2 v3 v4 v5 v6 v7 v8 v9 v10 v11 v12 (!v7 || bif v1 then !Prod.fst (Prod.snd (Prod.snd (Prod.snd (List.getD v2 (Int.toNat v6) (Ty.dflt RT))))) || !v1 && !Prod.fst (Prod.snd (Prod.snd (List.getD v2 (Int.toNat v6) (Ty.dflt RT)))) else !v1 && !Prod.fst (Prod.snd (Prod.snd (List.getD v2 (Int.toNat v6) (Ty.dflt RT))))) else none
theorem law3_RegionMay.s2000018_eq {R : Type} (v0 : Int) (v1 : Bool) (v2 : List (Int × Int × Bool × Bool × Bool × Bool × List Int × Unit)) (v3 : Int) (v4 : Int) (v5 : Int) (v6 : Int) (v7 : Bool) (v8 : Int) (v9 : Int) (v10 : List Int) (v11 : Int) (v12 : Int) (knormal : Int → Bool → (List (Int × Int × Bool × Bool × Bool × Bool × List Int × Unit)) → Int → Int → Int → Int → Bool → Int → Int → (List Int) → Int → Int → Bool → Option R) : law3_RegionMay.s2000018 v0 v1 v2 v3 v4 v5 v6 v7 v8 v9 v10 v11 v12 knormal = law3_RegionMay.o2000018 v0 v1 v2 v3 v4 v5 v6 v7 v8 v9 v10 v11 v12 knormal := by
  unfold law3_RegionMay.s2000018 law3_RegionMay.o2000018
  (cases hc : !v7 with | false => (cases hc : v1 with | false => (cases hc : !v1 with | false => rfl | true => (cases hc : decide ((0 : Int) ≤ v6) && decide (v6 < ↑(List.length v2)) with | false => rfl | true => rfl)) | true => (cases hc : decide ((0 : Int) ≤ v6) && decide (v6 < ↑(List.length v2)) with | false => rfl | true => (cases hc : !Prod.fst (Prod.snd (Prod.snd (Prod.snd (List.getD v2 (Int.toNat v6) (Ty.dflt RT))))) with | false => (cases hc : !v1 with | false => rfl | true => rfl) | true => rfl))) | true => rfl)
def law3_RegionMay.T3000019 : Tm := ⟨fill 0 181 [(0, Sl.data (Ty.int IntKind.u32)), (1, Sl.data Ty.bool), (7, Sl.data (Ty.sl RT)), (8, Sl.data (Ty.int IntKind.u32)), (9, Sl.data (Ty.int IntKind.i64)), (11, Sl.data (Ty.int IntKind.u32)), (12, Sl.data (Ty.int IntKind.i64)), (13, Sl.data Ty.bool), (14, Sl.data (Ty.int IntKind.i64)), (15, Sl.data (Ty.int IntKind.i64)), (73, Sl.data (Ty.sl (Ty.int IntKind.u32))), (74, Sl.data (Ty.int IntKind.i64)), (75, Sl.data (Ty.int IntKind.i64)), (107, Sl.data Ty.bool)], []⟩
def law3_RegionMay.X3000019_normal : Tm := ⟨fill 0 181 [(0, Sl.data (Ty.int IntKind.u32)), (1, Sl.data Ty.bool), (7, Sl.data (Ty.sl RT)), (8, Sl.data (Ty.int IntKind.u32)), (9, Sl.data (Ty.int IntKind.i64)), (11, Sl.data (Ty.int IntKind.u32)), (12, Sl.data (Ty.int IntKind.i64)), (13, Sl.data Ty.bool), (14, Sl.data (Ty.int IntKind.i64)), (15, Sl.data (Ty.int IntKind.i64)), (73, Sl.data (Ty.sl (Ty.int IntKind.u32))), (74, Sl.data (Ty.int IntKind.i64)), (75, Sl.data (Ty.int IntKind.i64))], []⟩
def law3_RegionMay.o3000019 {R : Type} (v0 : Int) (v1 : Bool) (v2 : List (Int × Int × Bool × Bool × Bool × Bool × List Int × Unit)) (v3 : Int) (v4 : Int) (v5 : Int) (v6 : Int) (v7 : Bool) (v8 : Int) (v9 : Int) (v10 : List Int) (v11 : Int) (v12 : Int) (v13 : Bool) (knormal : Int → Bool → (List (Int × Int × Bool × Bool × Bool × Bool × List Int × Unit)) → Int → Int → Int → Int → Bool → Int → Int → (List Int) → Int → Int → Option R) : Option R :=
  bif v13 then knormal v0 v1 v2 v3 v4 v5 v6 v7 v8 (24 : Int) v10 v11 v12 else knormal v0 v1 v2 v3 v4 v5 v6 v7 v8 v9 v10 v11 v12
def law3_RegionMay.s3000019 {R : Type} (v0 : Int) (v1 : Bool) (v2 : List (Int × Int × Bool × Bool × Bool × Bool × List Int × Unit)) (v3 : Int) (v4 : Int) (v5 : Int) (v6 : Int) (v7 : Bool) (v8 : Int) (v9 : Int) (v10 : List Int) (v11 : Int) (v12 : Int) (v13 : Bool) (knormal : Int → Bool → (List (Int × Int × Bool × Bool × Bool × Bool × List Int × Unit)) → Int → Int → Int → Int → Bool → Int → Int → (List Int) → Int → Int → Option R) : Option R :=
  knormal v0 v1 v2 v3 v4 v5 v6 v7 v8 (bif v13 then (24 : Int) else v9) v10 v11 v12
theorem law3_RegionMay.s3000019_eq {R : Type} (v0 : Int) (v1 : Bool) (v2 : List (Int × Int × Bool × Bool × Bool × Bool × List Int × Unit)) (v3 : Int) (v4 : Int) (v5 : Int) (v6 : Int) (v7 : Bool) (v8 : Int) (v9 : Int) (v10 : List Int) (v11 : Int) (v12 : Int) (v13 : Bool) (knormal : Int → Bool → (List (Int × Int × Bool × Bool × Bool × Bool × List Int × Unit)) → Int → Int → Int → Int → Bool → Int → Int → (List Int) → Int → Int → Option R) : law3_RegionMay.s3000019 v0 v1 v2 v3 v4 v5 v6 v7 v8 v9 v10 v11 v12 v13 knormal = law3_RegionMay.o3000019 v0 v1 v2 v3 v4 v5 v6 v7 v8 v9 v10 v11 v12 v13 knormal := by
  unfold law3_RegionMay.s3000019 law3_RegionMay.o3000019
  (cases hc : v13 with | false => rfl | true => rfl)
def law3_RegionMay.T3000017 : Tm := ⟨fill 0 181 [(0, Sl.data (Ty.int IntKind.u32)), (1, Sl.data Ty.bool), (7, Sl.data (Ty.sl RT)), (8, Sl.data (Ty.int IntKind.u32)), (9, Sl.data (Ty.int IntKind.i64)), (11, Sl.data (Ty.int IntKind.u32)), (12, Sl.data (Ty.int IntKind.i64)), (13, Sl.data Ty.bool), (14, Sl.data (Ty.int IntKind.i64)), (15, Sl.data (Ty.int IntKind.i64)), (73, Sl.data (Ty.sl (Ty.int IntKind.u32))), (74, Sl.data (Ty.int IntKind.i64)), (75, Sl.data (Ty.int IntKind.i64)), (102, Sl.data Ty.bool)], []⟩
def law3_RegionMay.X3000017_normal : Tm := ⟨fill 0 181 [(0, Sl.data (Ty.int IntKind.u32)), (1, Sl.data Ty.bool), (7, Sl.data (Ty.sl RT)), (8, Sl.data (Ty.int IntKind.u32)), (9, Sl.data (Ty.int IntKind.i64)), (11, Sl.data (Ty.int IntKind.u32)), (12, Sl.data (Ty.int IntKind.i64)), (13, Sl.data Ty.bool), (14, Sl.data (Ty.int IntKind.i64)), (15, Sl.data (Ty.int IntKind.i64)), (73, Sl.data (Ty.sl (Ty.int IntKind.u32))), (74, Sl.data (Ty.int IntKind.i64)), (75, Sl.data (Ty.int IntKind.i64))], []⟩
def law3_RegionMay.o3000017 {R : Type} (v0 : Int) (v1 : Bool) (v2 : List (Int × Int × Bool × Bool × Bool × Bool × List Int × Unit)) (v3 : Int) (v4 : Int) (v5 : Int) (v6 : Int) (v7 : Bool) (v8 : Int) (v9 : Int) (v10 : List Int) (v11 : Int) (v12 : Int) (v13 : Bool) (knormal : Int → Bool → (List (Int × Int × Bool × Bool × Bool × Bool × List Int × Unit)) → Int → Int → Int → Int → Bool → Int → Int → (List Int) → Int → Int → Option R) : Option R :=
  bif v13 then knormal v0 v1 v2 v3 v4 v5 v6 v7 v8 (25 : Int) v10 v11 v12 else bif !v7 || bif v1 then decide ((0 : Int) ≤ v6) && decide (v6 < ↑(List.length v2)) && (!Prod.fst (Prod.snd (Prod.snd (Prod.snd (List.getD v2 (Int.toNat v6) (Ty.dflt RT))))) || (!!v1 || decide ((0 : Int) ≤ v6) && decide (v6 < ↑(List.length v2)))) else !!v1 || decide ((0 : Int) ≤ v6) && decide (v6 < ↑(List.length v2)) then knormal v0 v1 v2 v3 v4 v5 v6 v7 v8 (bif !v7 || bif v1 then !Prod.fst (Prod.snd (Prod.snd (Prod.snd (List.getD v2 (Int.toNat v6) (Ty.dflt RT))))) || !v1 && !Prod.fst (Prod.snd (Prod.snd (List.getD v2 (Int.toNat v6) (Ty.dflt RT)))) else !v1 && !Prod.fst (Prod.snd (Prod.snd (List.getD v2 (Int.toNat v6) (Ty.dflt RT)))) then (24 : Int) else v9) v10 v11 v12 else none
def law3_RegionMay.s3000017 {R : Type} (v0 : Int) (v1 : Bool) (v2 : List (Int × Int × Bool × Bool × Bool × Bool × List Int × Unit)) (v3 : Int) (v4 : Int) (v5 : Int) (v6 : Int) (v7 : Bool) (v8 : Int) (v9 : Int) (v10 : List Int) (v11 : Int) (v12 : Int) (v13 : Bool) (knormal : Int → Bool → (List (Int × Int × Bool × Bool × Bool × Bool × List Int × Unit)) → Int → Int → Int → Int → Bool → Int → Int → (List Int) → Int → Int → Option R) : Option R :=
  bif v13 || (!v7 || bif v1 then decide ((0 : Int) ≤ v6) && decide (v6 < ↑(List.length v2)) && (!Prod.fst (Prod.snd (Prod.snd (Prod.snd (List.getD v2 (Int.toNat v6) (Ty.dflt RT))))) || (!!v1 || decide ((0 : Int) ≤ v6) && decide (v6 < ↑(List.length v2)))) else !!v1 || decide ((0 : Int) ≤ v6) && decide (v6 < ↑(List.length v2))) then knormal v0 v1 v2 v3 v4 v5 v6 v7 v8 (bif v13 then (25 : Int) else bif !v7 || bif v1 then !Prod.fst (Prod.snd (Prod.snd (Prod.snd (List.getD v2 (Int.toNat v6) (Ty.dflt RT))))) || !v1 && !Prod.fst (Prod.snd (Prod.snd (List.getD v2 (Int.toNat v6) (Ty.dflt RT)))) else !v1 && !Prod.fst (Prod.snd (Prod.snd (List.getD v2 (Int.toNat v6) (Ty.dflt RT)))) then (24 : Int) else v9) v10 v11 v12 else none
theorem law3_RegionMay.s3000017_eq {R : Type} (v0 : Int) (v1 : Bool) (v2 : List (Int × Int × Bool × Bool × Bool × Bool × List Int × Unit)) (v3 : Int) (v4 : Int) (v5 : Int) (v6 : Int) (v7 : Bool) (v8 : Int) (v9 : Int) (v10 : List Int) (v11 : Int) (v12 : Int) (v13 : Bool) (knormal : Int → Bool → (List (Int × Int × Bool × Bool × Bool × Bool × List Int × Unit)) → Int → Int → Int → Int → Bool → Int → Int → (List Int) → Int → Int → Option R) : law3_RegionMay.s3000017 v0 v1 v2 v3 v4 v5 v6 v7 v8 v9 v10 v11 v12 v13 knormal = law3_RegionMay.o3000017 v0 v1 v2 v3 v4 v5 v6 v7 v8 v9 v10 v11 v12 v13 knormal := by
  unfold law3_RegionMay.s3000017 law3_RegionMay.o3000017
  (cases hc : v13 with | false => (cases hc : !v7 || bif v1 then decide ((0 : Int) ≤ v6) && decide (v6 < ↑(List.length v2)) && (!Prod.fst (Prod.snd (Prod.snd (Prod.snd (List.getD v2 (Int.toNat v6) (Ty.dflt RT))))) || (!!v1 || decide ((0 : Int) ≤ v6) && decide (v6 < ↑(List.length v2)))) else !!v1 || decide ((0 : Int) ≤ v6) && decide (v6 < ↑(List.length v2)) with | false => rfl | true => rfl) | true => rfl)
def law3_RegionMay.T2000020 : Tm := ⟨fill 0 181 [(0, Sl.data (Ty.int IntKind.u32)), (1, Sl.data Ty.bool), (7, Sl.data (Ty.sl RT)), (8, Sl.data (Ty.int IntKind.u32)), (9, Sl.data (Ty.int IntKind.i64)), (11, Sl.data (Ty.int IntKind.u32)), (12, Sl.data (Ty.int IntKind.i64)), (13, Sl.data Ty.bool), (14, Sl.data (Ty.int IntKind.i64)), (15, Sl.data (Ty.int IntKind.i64)), (73, Sl.data (Ty.sl (Ty.int IntKind.u32))), (74, Sl.data (Ty.int IntKind.i64)), (75, Sl.data (Ty.int IntKind.i64))], []⟩
def law3_RegionMay.X2000020_normal : Tm := ⟨fill 0 181 [(0, Sl.data (Ty.int IntKind.u32)), (1, Sl.data Ty.bool), (7, Sl.data (Ty.sl RT)), (8, Sl.data (Ty.int IntKind.u32)), (9, Sl.data (Ty.int IntKind.i64)), (73, Sl.data (Ty.sl (Ty.int IntKind.u32))), (74, Sl.data (Ty.int IntKind.i64)), (75, Sl.data (Ty.int IntKind.i64)), (179, Sl.data Ty.bool)], []⟩
def law3_RegionMay.o2000020 {R : Type} (v0 : Int) (v1 : Bool) (v2 : List (Int × Int × Bool × Bool × Bool × Bool × List Int × Unit)) (v3 : Int) (v4 : Int) (v5 : Int) (v6 : Int) (v7 : Bool) (v8 : Int) (v9 : Int) (v10 : List Int) (v11 : Int) (v12 : Int) (knormal : Int → Bool → (List (Int × Int × Bool × Bool × Bool × Bool × List Int × Unit)) → Int → Int → (List Int) → Int → Int → Bool → Option R) : Option R :=
  bif v8 != v9 then knormal v0 v1 v2 v3 v4 v10 v11 v12 true else bif v7 then bif decide ((0 : Int) ≤ v6) && decide (v6 < ↑(List.length v2)) then bif decide (v5 < Prod.fst (List.getD v2 (Int.toNat v6) (Ty.dflt RT))) then knormal v0 v1 v2 v3 v4 v10 v11 v12 true else bif decide ((0 : Int) ≤ v6) && decide (v6 < ↑(List.length v2)) then bif decide ((0 : Int) ≤ v6) && decide (v6 < ↑(List.length v2)) then bif decide (IntKind.wrap IntKind.u32 (IntKind.wrap IntKind.u32 (v5 - Prod.fst (List.getD v2 (Int.toNat v6) (Ty.dflt RT))) + v3) > Prod.fst (Prod.snd (List.getD v2 (Int.toNat v6) (Ty.dflt RT)))) then knormal v0 v1 v2 v3 v4 v10 v11 v12 true else bif region_Secret.pre v2 v5 v3 then bif v7 then bif decide ((0 : Int) ≤ v6) && decide (v6 < ↑(List.length v2)) then knormal v0 v1 v2 v3 v4 v10 v11 v12 !eqD Ty.bool (region_Secret v2 v5 v3) (Prod.fst (Prod.snd (Prod.snd (Prod.snd (Prod.snd (Prod.snd (List.getD v2 (Int.toNat v6) (Ty.dflt RT)))))))) else none else knormal v0 v1 v2 v3 v4 v10 v11 v12 !eqD Ty.bool (region_Secret v2 v5 v3) false else none else none else none else none else bif region_Secret.pre v2 v5 v3 then bif v7 then bif decide ((0 : Int) ≤ v6) && decide (v6 < ↑(List.length v2)) then knormal v0 v1 v2 v3 v4 v10 v11 v12 !eqD Ty.bool (region_Secret v2 v5 v3) (Prod.fst (Prod.snd (Prod.snd (Prod.snd (Prod.snd (Prod.snd (List.getD v2 (Int.toNat v6) (Ty.dflt RT)))))))) else none else knormal v0 v1 v2 v3 v4 v10 v11 v12 !eqD Ty.bool (region_Secret v2 v5 v3) false else none
def law3_RegionMay.s2000020 {R : Type} (v0 : Int) (v1 : Bool) (v2 : List (Int × Int × Bool × Bool × Bool × Bool × List Int × Unit)) (v3 : Int) (v4 : Int) (v5 : Int) (v6 : Int) (v7 : Bool) (v8 : Int) (v9 : Int) (v10 : List Int) (v11 : Int) (v12 : Int) (knormal : Int → Bool → (List (Int × Int × Bool × Bool × Bool × Bool × List Int × Unit)) → Int → Int → (List Int) → Int → Int → Bool → Option R) : Option R :=
  bif v8 != v9 || bif v7 then decide ((0 : Int) ≤ v6) && decide (v6 < ↑(List.length v2)) && (decide (v5 < Prod.fst (List.getD v2 (Int.toNat v6) (Ty.dflt RT))) || decide ((0 : Int) ≤ v6) && decide (v6 < ↑(List.length v2)) && (decide ((0 : Int) ≤ v6) && decide (v6 < ↑(List.length v2)) && (decide (IntKind.wrap IntKind.u32 (IntKind.wrap IntKind.u32 (v5 - Prod.fst (List.getD v2 (Int.toNat v6) (Ty.dflt RT))) + v3) > Prod.fst (Prod.snd (List.getD v2 (Int.toNat v6) (Ty.dflt RT)))) || region_Secret.pre v2 v5 v3 && (!v7 || decide ((0 : Int) ≤ v6) && decide (v6 < ↑(List.length v2)))))) else region_Secret.pre v2 v5 v3 && (!v7 || decide ((0 : Int) ≤ v6) && decide (v6 < ↑(List.length v2))) then knormal v0 v1 v2 v3 v4 v10 v11 v12 (v8 != v9 || bif v7 then decide (v5 < Prod.fst (List.getD v2 (Int.toNat v6) (Ty.dflt RT))) || (decide (IntKind.wrap IntKind.u32 (IntKind.wrap IntKind.u32 (v5 - Prod.fst (List.getD v2 (Int.toNat v6) (Ty.dflt RT))) + v3) > Prod.fst (Prod.snd (List.getD v2 (Int.toNat v6) (Ty.dflt RT)))) || bif v7 then !eqD Ty.bool (region_Secret v2 v5 v3) (Prod.fst (Prod.snd (Prod.snd (Prod.snd (Prod.snd (Prod.snd (List.getD v2 (Int.toNat v6) (Ty.dflt RT)))))))) else !eqD Ty.bool (region_Secret v2 v5 v3) false) else bif v7 then !eqD Ty.bool (region_Secret v2 v5 v3) (Prod.fst (Prod.snd (Prod.snd (Prod.snd (Prod.snd (Prod.snd (List.getD v2 (Int.toNat v6) (Ty.dflt RT)))))))) else !eqD Ty.bool (region_Secret v2 v5 v3) false) else none
theorem law3_RegionMay.s2000020_eq {R : Type} (v0 : Int) (v1 : Bool) (v2 : List (Int × Int × Bool × Bool × Bool × Bool × List Int × Unit)) (v3 : Int) (v4 : Int) (v5 : Int) (v6 : Int) (v7 : Bool) (v8 : Int) (v9 : Int) (v10 : List Int) (v11 : Int) (v12 : Int) (knormal : Int → Bool → (List (Int × Int × Bool × Bool × Bool × Bool × List Int × Unit)) → Int → Int → (List Int) → Int → Int → Bool → Option R) : law3_RegionMay.s2000020 v0 v1 v2 v3 v4 v5 v6 v7 v8 v9 v10 v11 v12 knormal = law3_RegionMay.o2000020 v0 v1 v2 v3 v4 v5 v6 v7 v8 v9 v10 v11 v12 knormal := by
  unfold law3_RegionMay.s2000020 law3_RegionMay.o2000020
  (cases hc : v8 != v9 with | false => (cases hc : v7 with | false => (cases hc : region_Secret.pre v2 v5 v3 with | false => rfl | true => rfl) | true => (cases hc : decide ((0 : Int) ≤ v6) && decide (v6 < ↑(List.length v2)) with | false => rfl | true => (cases hc : decide (v5 < Prod.fst (List.getD v2 (Int.toNat v6) (Ty.dflt RT))) with | false => (cases hc : decide (IntKind.wrap IntKind.u32 (IntKind.wrap IntKind.u32 (v5 - Prod.fst (List.getD v2 (Int.toNat v6) (Ty.dflt RT))) + v3) > Prod.fst (Prod.snd (List.getD v2 (Int.toNat v6) (Ty.dflt RT)))) with | false => (cases hc : region_Secret.pre v2 v5 v3 with | false => rfl | true => rfl) | true => rfl) | true => rfl))) | true => rfl)
def law3_RegionMay.T2 : Tm := ⟨fill 0 181 [(0, Sl.data (Ty.int IntKind.u32)), (1, Sl.data Ty.bool), (7, Sl.data (Ty.sl RT)), (8, Sl.data (Ty.int IntKind.u32)), (9, Sl.data (Ty.int IntKind.i64)), (73, Sl.data (Ty.sl (Ty.int IntKind.u32))), (74, Sl.data (Ty.int IntKind.i64)), (75, Sl.data (Ty.int IntKind.i64))], []⟩
def law3_RegionMay.X2_ret : Tm := ⟨fill 0 181 [(0, Sl.data (Ty.int IntKind.u32)), (1, Sl.data Ty.bool), (6, Sl.data Ty.bool), (7, Sl.data (Ty.sl RT)), (8, Sl.data (Ty.int IntKind.u32)), (9, Sl.data (Ty.int IntKind.i64))], []⟩
def law3_RegionMay.X2_exit2 : Tm := ⟨fill 0 181 [(0, Sl.data (Ty.int IntKind.u32)), (1, Sl.data Ty.bool), (7, Sl.data (Ty.sl RT)), (8, Sl.data (Ty.int IntKind.u32)), (9, Sl.data (Ty.int IntKind.i64))], []⟩
def law3_RegionMay.round2 {R : Type} (v0 : Int) (v1 : Bool) (v2 : List (Int × Int × Bool × Bool × Bool × Bool × List Int × Unit)) (v3 : Int) (v4 : Int) (v5 : List Int) (v6 : Int) (v7 : Int) (next : Int → Bool → (List (Int × Int × Bool × Bool × Bool × Bool × List Int × Unit)) → Int → Int → (List Int) → Int → Int → Option R) (kret : Int → Bool → Bool → (List (Int × Int × Bool × Bool × Bool × Bool × List Int × Unit)) → Int → Int → Option R) (kexit2 : Int → Bool → (List (Int × Int × Bool × Bool × Bool × Bool × List Int × Unit)) → Int → Int → Option R) : Option R :=
  bif decide (v7 < v6) then bif decide ((0 : Int) ≤ v7) && decide (v7 < ↑(List.length v5)) then bif region_Find.pre v2 (List.getD v5 (Int.toNat v7) (0 : Int)) v3 then bif Prod.snd (region_Find v2 (List.getD v5 (Int.toNat v7) (0 : Int)) v3) && (decide (Prod.fst (region_Find v2 (List.getD v5 (Int.toNat v7) (0 : Int)) v3) < (0 : Int)) || decide (Prod.fst (region_Find v2 (List.getD v5 (Int.toNat v7) (0 : Int)) v3) ≥ ↑(List.length v2))) then kret v0 v1 false v2 v3 v4 else bif region_May.pre v2 (List.getD v5 (Int.toNat v7) (0 : Int)) v3 v1 then bif v3 != (0 : Int) then bif Int.tmod (List.getD v5 (Int.toNat v7) (0 : Int)) v3 != (0 : Int) || (!Prod.snd (region_Find v2 (List.getD v5 (Int.toNat v7) (0 : Int)) v3) || bif v1 then decide ((0 : Int) ≤ Prod.fst (region_Find v2 (List.getD v5 (Int.toNat v7) (0 : Int)) v3)) && decide (Prod.fst (region_Find v2 (List.getD v5 (Int.toNat v7) (0 : Int)) v3) < ↑(List.length v2)) && (!Prod.fst (Prod.snd (Prod.snd (Prod.snd (List.getD v2 (Int.toNat (Prod.fst (region_Find v2 (List.getD v5 (Int.toNat v7) (0 : Int)) v3))) (Ty.dflt RT))))) || (!!v1 || decide ((0 : Int) ≤ Prod.fst (region_Find v2 (List.getD v5 (Int.toNat v7) (0 : Int)) v3)) && decide (Prod.fst (region_Find v2 (List.getD v5 (Int.toNat v7) (0 : Int)) v3) < ↑(List.length v2)))) else !!v1 || decide ((0 : Int) ≤ Prod.fst (region_Find v2 (List.getD v5 (Int.toNat v7) (0 : Int)) v3)) && decide (Prod.fst (region_Find v2 (List.getD v5 (Int.toNat v7) (0 : Int)) v3) < ↑(List.length v2))) then bif (region_May v2 (List.getD v5 (Int.toNat v7) (0 : Int)) v3 v1 != bif Int.tmod (List.getD v5 (Int.toNat v7) (0 : Int)) v3 != (0 : Int) then (25 : Int) else bif !Prod.snd (region_Find v2 (List.getD v5 (Int.toNat v7) (0 : Int)) v3) || bif v1 then !Prod.fst (Prod.snd (Prod.snd (Prod.snd (List.getD v2 (Int.toNat (Prod.fst (region_Find v2 (List.getD v5 (Int.toNat v7) (0 : Int)) v3))) (Ty.dflt RT))))) || !v1 && !Prod.fst (Prod.snd (Prod.snd (List.getD v2 (Int.toNat (Prod.fst (region_Find v2 (List.getD v5 (Int.toNat v7) (0 : Int)) v3))) (Ty.dflt RT)))) else !v1 && !Prod.fst (Prod.snd (Prod.snd (List.getD v2 (Int.toNat (Prod.fst (region_Find v2 (List.getD v5 (Int.toNat v7) (0 : Int)) v3))) (Ty.dflt RT)))) then (24 : Int) else (0 : Int)) || bif Prod.snd (region_Find v2 (List.getD v5 (Int.toNat v7) (0 : Int)) v3) then decide ((0 : Int) ≤ Prod.fst (region_Find v2 (List.getD v5 (Int.toNat v7) (0 : Int)) v3)) && decide (Prod.fst (region_Find v2 (List.getD v5 (Int.toNat v7) (0 : Int)) v3) < ↑(List.length v2)) && (decide (List.getD v5 (Int.toNat v7) (0 : Int) < Prod.fst (List.getD v2 (Int.toNat (Prod.fst (region_Find v2 (List.getD v5 (Int.toNat v7) (0 : Int)) v3))) (Ty.dflt RT))) || decide ((0 : Int) ≤ Prod.fst (region_Find v2 (List.getD v5 (Int.toNat v7) (0 : Int)) v3)) && decide (Prod.fst (region_Find v2 (List.getD v5 (Int.toNat v7) (0 : Int)) v3) < ↑(List.length v2)) && (decide ((0 : Int) ≤ Prod.fst (region_Find v2 (List.getD v5 (Int.toNat v7) (0 : Int)) v3)) && decide (Prod.fst (region_Find v2 (List.getD v5 (Int.toNat v7) (0 : Int)) v3) < ↑(List.length v2)) && (decide (IntKind.wrap IntKind.u32 (IntKind.wrap IntKind.u32 (List.getD v5 (Int.toNat v7) (0 : Int) - Prod.fst (List.getD v2 (Int.toNat (Prod.fst (region_Find v2 (List.getD v5 (Int.toNat v7) (0 : Int)) v3))) (Ty.dflt RT))) + v3) > Prod.fst (Prod.snd (List.getD v2 (Int.toNat (Prod.fst (region_Find v2 (List.getD v5 (Int.toNat v7) (0 : Int)) v3))) (Ty.dflt RT)))) || region_Secret.pre v2 (List.getD v5 (Int.toNat v7) (0 : Int)) v3 && (!Prod.snd (region_Find v2 (List.getD v5 (Int.toNat v7) (0 : Int)) v3) || decide ((0 : Int) ≤ Prod.fst (region_Find v2 (List.getD v5 (Int.toNat v7) (0 : Int)) v3)) && decide (Prod.fst (region_Find v2 (List.getD v5 (Int.toNat v7) (0 : Int)) v3) < ↑(List.length v2)))))) else region_Secret.pre v2 (List.getD v5 (Int.toNat v7) (0 : Int)) v3 && (!Prod.snd (region_Find v2 (List.getD v5 (Int.toNat v7) (0 : Int)) v3) || decide ((0 : Int) ≤ Prod.fst (region_Find v2 (List.getD v5 (Int.toNat v7) (0 : Int)) v3)) && decide (Prod.fst (region_Find v2 (List.getD v5 (Int.toNat v7) (0 : Int)) v3) < ↑(List.length v2))) then bif (region_May v2 (List.getD v5 (Int.toNat v7) (0 : Int)) v3 v1 != bif Int.tmod (List.getD v5 (Int.toNat v7) (0 : Int)) v3 != (0 : Int) then (25 : Int) else bif !Prod.snd (region_Find v2 (List.getD v5 (Int.toNat v7) (0 : Int)) v3) || bif v1 then !Prod.fst (Prod.snd (Prod.snd (Prod.snd (List.getD v2 (Int.toNat (Prod.fst (region_Find v2 (List.getD v5 (Int.toNat v7) (0 : Int)) v3))) (Ty.dflt RT))))) || !v1 && !Prod.fst (Prod.snd (Prod.snd (List.getD v2 (Int.toNat (Prod.fst (region_Find v2 (List.getD v5 (Int.toNat v7) (0 : Int)) v3))) (Ty.dflt RT)))) else !v1 && !Prod.fst (Prod.snd (Prod.snd (List.getD v2 (Int.toNat (Prod.fst (region_Find v2 (List.getD v5 (Int.toNat v7) (0 : Int)) v3))) (Ty.dflt RT)))) then (24 : Int) else (0 : Int)) || bif Prod.snd (region_Find v2 (List.getD v5 (Int.toNat v7) (0 : Int)) v3) then decide (List.getD v5 (Int.toNat v7) (0 : Int) < Prod.fst (List.getD v2 (Int.toNat (Prod.fst (region_Find v2 (List.getD v5 (Int.toNat v7) (0 : Int)) v3))) (Ty.dflt RT))) || (decide (IntKind.wrap IntKind.u32 (IntKind.wrap IntKind.u32 (List.getD v5 (Int.toNat v7) (0 : Int) - Prod.fst (List.getD v2 (Int.toNat (Prod.fst (region_Find v2 (List.getD v5 (Int.toNat v7) (0 : Int)) v3))) (Ty.dflt RT))) + v3) > Prod.fst (Prod.snd (List.getD v2 (Int.toNat (Prod.fst (region_Find v2 (List.getD v5 (Int.toNat v7) (0 : Int)) v3))) (Ty.dflt RT)))) || bif Prod.snd (region_Find v2 (List.getD v5 (Int.toNat v7) (0 : Int)) v3) then !eqD Ty.bool (region_Secret v2 (List.getD v5 (Int.toNat v7) (0 : Int)) v3) (Prod.fst (Prod.snd (Prod.snd (Prod.snd (Prod.snd (Prod.snd (List.getD v2 (Int.toNat (Prod.fst (region_Find v2 (List.getD v5 (Int.toNat v7) (0 : Int)) v3))) (Ty.dflt RT)))))))) else !eqD Ty.bool (region_Secret v2 (List.getD v5 (Int.toNat v7) (0 : Int)) v3) false) else bif Prod.snd (region_Find v2 (List.getD v5 (Int.toNat v7) (0 : Int)) v3) then !eqD Ty.bool (region_Secret v2 (List.getD v5 (Int.toNat v7) (0 : Int)) v3) (Prod.fst (Prod.snd (Prod.snd (Prod.snd (Prod.snd (Prod.snd (List.getD v2 (Int.toNat (Prod.fst (region_Find v2 (List.getD v5 (Int.toNat v7) (0 : Int)) v3))) (Ty.dflt RT)))))))) else !eqD Ty.bool (region_Secret v2 (List.getD v5 (Int.toNat v7) (0 : Int)) v3) false then kret v0 v1 false v2 v3 v4 else next v0 v1 v2 v3 v4 v5 v6 (IntKind.wrap IntKind.i64 (v7 + (1 : Int))) else none else none else none else none else none else none else kexit2 v0 v1 v2 v3 v4
def law3_RegionMay.R2 {R : Type} (kret : Int → Bool → Bool → (List (Int × Int × Bool × Bool × Bool × Bool × List Int × Unit)) → Int → Int → Option R) (kexit2 : Int → Bool → (List (Int × Int × Bool × Bool × Bool × Bool × List Int × Unit)) → Int → Int → Option R) : (Int × Bool × (List (Int × Int × Bool × Bool × Bool × Bool × List Int × Unit)) × Int × Int × (List Int) × Int × Int) → ((Int × Bool × (List (Int × Int × Bool × Bool × Bool × Bool × List Int × Unit)) × Int × Int × (List Int) × Int × Int) → Option R) → Option R := fun (v0, v1, v2, v3, v4, v5, v6, v7) next => law3_RegionMay.round2 v0 v1 v2 v3 v4 v5 v6 v7 (fun w0 w1 w2 w3 w4 w5 w6 w7 => next (w0, w1, w2, w3, w4, w5, w6, w7)) kret kexit2
theorem law3_RegionMay.R2_eq {R : Type} (kret : Int → Bool → Bool → (List (Int × Int × Bool × Bool × Bool × Bool × List Int × Unit)) → Int → Int → Option R) (kexit2 : Int → Bool → (List (Int × Int × Bool × Bool × Bool × Bool × List Int × Unit)) → Int → Int → Option R) (v0 : Int) (v1 : Bool) (v2 : List (Int × Int × Bool × Bool × Bool × Bool × List Int × Unit)) (v3 : Int) (v4 : Int) (v5 : List Int) (v6 : Int) (v7 : Int) (next : (Int × Bool × (List (Int × Int × Bool × Bool × Bool × Bool × List Int × Unit)) × Int × Int × (List Int) × Int × Int) → Option R) : law3_RegionMay.R2 kret kexit2 (v0, v1, v2, v3, v4, v5, v6, v7) next = law3_RegionMay.round2 v0 v1 v2 v3 v4 v5 v6 v7 (fun w0 w1 w2 w3 w4 w5 w6 w7 => next (w0, w1, w2, w3, w4, w5, w6, w7)) kret kexit2 := rfl
theorem law3_RegionMay.round_ok {R : Type} (a : Int) (w : Bool) (l : List Reg) (n i : Int) (ps : List Int) (m j : Int) (next : Int → Bool → List Reg → Int → Int → List Int → Int → Int → Option R) (kret : Int → Bool → Bool → List Reg → Int → Int → Option R) (kx : Int → Bool → List Reg → Int → Int → Option R)
    (hl : region_Check l = 0) (hp : region_Check.pre l = true) (hu : regs_u32 l) (hn : n = 1 ∨ n = 2 ∨ n = 4) (hm : m = ps.length) (h0 : 0 ≤ j) (hj : j < m) (hps : ∀ p ∈ ps, U32 p) :
    law3_RegionMay.round2 a w l n i ps m j next kret kx = next a w l n i ps m (IntKind.wrap .i64 (j + 1)) := by
  have hlt : j.toNat < ps.length := by omega
  have hx : List.getD ps j.toNat 0 = ps[j.toNat] := by rw [List.getD_eq_getElem?_getD, List.getElem?_eq_getElem hlt]; rfl
  have hpu := hps _ (List.getElem_mem hlt)
  unfold law3_RegionMay.round2
  rw [hx, decide_eq_true hj, decide_eq_true h0, decide_eq_true (hm ▸ hj : j < (ps.length : Int))]
  generalize ps[j.toNat] = p at hpu
  have f1 : region_Find.pre l p n = true := hp
  have f2 : region_May.pre l p n w = true := hp
  have f3 : region_Secret.pre l p n = true := hp
  have f4 : (n != 0) = true := by rcases hn with rfl | rfl | rfl <;> rfl
  rw [f1, f2, f3, f4]
  unfold region_May region_Secret
  rw [hl, law3_sizes hn]
  cases hf : (region_Find l p n).2 with
  | false => cases Int.tmod p n != 0 <;> cases w <;> rfl
  | true =>
    have hr := region_Find_range l p n hf
    obtain ⟨_, hmem, h1, h2⟩ := region_Find_spec l p n hf
    have hr' : (decide ((region_Find l p n).1 < 0) || decide ((region_Find l p n).1 ≥ (l.length : Int))) = false := by
      simp only [Bool.and_eq_true, decide_eq_true_eq] at hr
      simp only [Bool.or_eq_false_iff, decide_eq_false_iff_not]
      omega
    rw [hr, hr']
    unfold region_at at hmem h1 h2 ⊢
    obtain ⟨u1, u2⟩ := hu _ hmem
    generalize List.getD l (Int.toNat (region_Find l p n).1) (Ty.dflt RT) = x at hmem h1 h2 u1 u2
    obtain ⟨x1, x2, x3, x4, x5, x6, x7⟩ := x
    unfold U32 at u1 u2 hpu
    dsimp only at u1 u2 h1 h2
    have k1 : decide (p < x1) = false := decide_eq_false (Int.not_lt.2 h1)
    rw [law3_sizes hn] at h2
    have k2 : decide (IntKind.wrap .u32 (IntKind.wrap .u32 (p - x1) + n) > x2) = false := law3_far p n x1 x2 h1 hn hpu u1 u2 h2
    rw [k1, k2]
    cases Int.tmod p n != 0 <;> cases w <;> cases x3 <;> cases x4 <;> cases x6 <;> rfl
def law3_RegionMay.loop2 {R : Type} (a : Int) (w : Bool) (l : List Reg) (n i : Int) (ps : List Int) (m j : Int) (kret : Int → Bool → Bool → List Reg → Int → Int → Option R) (kx : Int → Bool → List Reg → Int → Int → Option R) : Option R :=
  open Classical in
  if region_Check l = 0 ∧ region_Check.pre l = true ∧ regs_u32 l ∧ (n = 1 ∨ n = 2 ∨ n = 4) ∧ m = ps.length ∧ m < 4611686018427387904 ∧ 0 ≤ j ∧ j ≤ m ∧ (∀ p ∈ ps, U32 p) then kx a w l n i else none
theorem law3_RegionMay.loop2_ok {R : Type} (a : Int) (w : Bool) (l : List Reg) (n i : Int) (ps : List Int) (m j : Int) (kret : Int → Bool → Bool → List Reg → Int → Int → Option R) (kx : Int → Bool → List Reg → Int → Int → Option R) (r : R) (h : law3_RegionMay.loop2 a w l n i ps m j kret kx = some r) : ∃ f, lp (law3_RegionMay.R2 kret kx) f (a, w, l, n, i, ps, m, j) = some r := by
  unfold law3_RegionMay.loop2 at h
  split at h <;> try (cases h; done)
  rename_i hc
  obtain ⟨h1, h2, h3, h4, h5, h6, h7, h8, h9⟩ := hc
  rw [← h]
  refine lp_spec (round := law3_RegionMay.R2 kret kx) (spec := fun (a, w, l, n, i, ps, m, j) => kx a w l n i) (inv := fun (a', w', l', n', i', ps', m', j') => l' = l ∧ n' = n ∧ ps' = ps ∧ m' = m ∧ 0 ≤ j' ∧ j' ≤ m) (μ := fun (a, w, l, n, i, ps, m, j) => (m - j).toNat) ?_ (a, w, l, n, i, ps, m, j) ⟨rfl, rfl, rfl, rfl, h7, h8⟩
  rintro ⟨a, w, l', n', i, ps', m', j⟩ ⟨rfl, rfl, rfl, rfl, k1, k2⟩ next hn
  rw [law3_RegionMay.R2_eq]
  by_cases hj : j < m'
  · rw [law3_RegionMay.round_ok _ _ _ _ _ _ _ _ _ _ _ h1 h2 h3 h4 h5 k1 hj h9, wrap_next k1 hj h6]
    exact hn (a, w, l', n', i, ps', m', j + 1) ⟨rfl, rfl, rfl, rfl, by omega, by omega⟩ (by simp only; omega)
  · unfold law3_RegionMay.round2
    rw [decide_eq_false hj]
    rfl
def law3_RegionMay.T0 : Tm := ⟨fill 0 181 [(0, Sl.data (Ty.int IntKind.u32)), (1, Sl.data Ty.bool), (7, Sl.data (Ty.sl RT)), (8, Sl.data (Ty.int IntKind.u32)), (9, Sl.data (Ty.int IntKind.i64))], []⟩
def law3_RegionMay.X0_ret : Tm := ⟨fill 0 181 [(6, Sl.data Ty.bool)], []⟩
def law3_RegionMay.X0_exit0 : Tm := ⟨fill 0 181 [], []⟩
def law3_RegionMay.round0 {R : Type} (v0 : Int) (v1 : Bool) (v2 : List (Int × Int × Bool × Bool × Bool × Bool × List Int × Unit)) (v3 : Int) (v4 : Int) (next : Int → Bool → (List (Int × Int × Bool × Bool × Bool × Bool × List Int × Unit)) → Int → Int → Option R) (kret : Bool → Option R) (kexit0 : Option R) : Option R :=
  bif decide (v4 < ↑(List.length v2)) then bif decide ((0 : Int) ≤ v4) && decide (v4 < ↑(List.length v2)) then bif decide ((0 : Int) ≤ v4) && decide (v4 < ↑(List.length v2)) then bif Prod.fst (Prod.snd (List.getD v2 (Int.toNat v4) (Ty.dflt RT))) != (0 : Int) then bif decide ((0 : Int) ≤ v4) && decide (v4 < ↑(List.length v2)) then bif decide ((0 : Int) ≤ v4) && decide (v4 < ↑(List.length v2)) then bif decide ((0 : Int) ≤ v4) && decide (v4 < ↑(List.length v2)) then bif decide ((0 : Int) ≤ v4) && decide (v4 < ↑(List.length v2)) then bif decide ((0 : Int) ≤ v4) && decide (v4 < ↑(List.length v2)) then law3_RegionMay.loop2 v0 v1 v2 v3 v4 [IntKind.wrap IntKind.u32 (Prod.fst (List.getD v2 (Int.toNat v4) (Ty.dflt RT)) + Int.tmod v0 (Prod.fst (Prod.snd (List.getD v2 (Int.toNat v4) (Ty.dflt RT))))), IntKind.wrap IntKind.u32 (IntKind.wrap IntKind.u32 (Prod.fst (List.getD v2 (Int.toNat v4) (Ty.dflt RT)) + Prod.fst (Prod.snd (List.getD v2 (Int.toNat v4) (Ty.dflt RT)))) - v3), IntKind.wrap IntKind.u32 (Prod.fst (List.getD v2 (Int.toNat v4) (Ty.dflt RT)) - (1 : Int)), IntKind.wrap IntKind.u32 (Prod.fst (List.getD v2 (Int.toNat v4) (Ty.dflt RT)) + Prod.fst (Prod.snd (List.getD v2 (Int.toNat v4) (Ty.dflt RT))))] (4 : Int) (0 : Int) (fun e0 e1 e2 e3 e4 e5 => kret e2) fun e0 e1 e2 e3 e4 => next e0 e1 e2 e3 (IntKind.wrap IntKind.i64 (e4 + (1 : Int))) else none else none else none else none else none else none else none else none else kexit0
def law3_RegionMay.R0 {R : Type} (kret : Bool → Option R) (kexit0 : Option R) : (Int × Bool × (List (Int × Int × Bool × Bool × Bool × Bool × List Int × Unit)) × Int × Int) → ((Int × Bool × (List (Int × Int × Bool × Bool × Bool × Bool × List Int × Unit)) × Int × Int) → Option R) → Option R := fun (v0, v1, v2, v3, v4) next => law3_RegionMay.round0 v0 v1 v2 v3 v4 (fun w0 w1 w2 w3 w4 => next (w0, w1, w2, w3, w4)) kret kexit0
theorem law3_RegionMay.R0_eq {R : Type} (kret : Bool → Option R) (kexit0 : Option R) (v0 : Int) (v1 : Bool) (v2 : List (Int × Int × Bool × Bool × Bool × Bool × List Int × Unit)) (v3 : Int) (v4 : Int) (next : (Int × Bool × (List (Int × Int × Bool × Bool × Bool × Bool × List Int × Unit)) × Int × Int) → Option R) : law3_RegionMay.R0 kret kexit0 (v0, v1, v2, v3, v4) next = law3_RegionMay.round0 v0 v1 v2 v3 v4 (fun w0 w1 w2 w3 w4 => next (w0, w1, w2, w3, w4)) kret kexit0 := rfl
theorem U32_wrap (x : Int) : U32 (IntKind.wrap .u32 x) := by
  unfold U32
  rw [IntKind.wrap_u32]
  omega
theorem law3_list_ok : region_Check law3_list = 0 ∧ region_Check.pre law3_list = true ∧ law3_list.length = 4 := ⟨by kernel_rfl, by kernel_rfl, rfl⟩
theorem law3_list_u32 : regs_u32 law3_list := by
  intro r hr
  unfold law3_list seat_Regions at hr
  simp only [List.mem_cons, List.not_mem_nil, or_false] at hr
  unfold U32
  rcases hr with rfl | rfl | rfl | rfl <;> simp
theorem law3_list_ne (i : Int) (h0 : 0 ≤ i) (h4 : i < 4) : (Prod.fst (Prod.snd (List.getD law3_list (Int.toNat i) (Ty.dflt RT))) != (0 : Int)) = true := by
  rcases (by omega : i = 0 ∨ i = 1 ∨ i = 2 ∨ i = 3) with rfl | rfl | rfl | rfl <;> rfl
def law3_RegionMay.loop0 {R : Type} (a : Int) (w : Bool) (l : List Reg) (n i : Int) (kret : Bool → Option R) (kx : Option R) : Option R :=
  open Classical in
  if l = law3_list ∧ (n = 1 ∨ n = 2 ∨ n = 4) ∧ 0 ≤ i ∧ i ≤ 4 then kx else none
theorem law3_RegionMay.loop0_ok {R : Type} (a : Int) (w : Bool) (l : List Reg) (n i : Int) (kret : Bool → Option R) (kx : Option R) (r : R) (h : law3_RegionMay.loop0 a w l n i kret kx = some r) : ∃ f, lp (law3_RegionMay.R0 kret kx) f (a, w, l, n, i) = some r := by
  unfold law3_RegionMay.loop0 at h
  split at h <;> try (cases h; done)
  rename_i hc
  obtain ⟨h1, h2, h3, h4⟩ := hc
  rw [← h]
  refine lp_spec (round := law3_RegionMay.R0 kret kx) (spec := fun (a, w, l, n, i) => kx) (inv := fun (a', w', l', n', i') => l' = law3_list ∧ n' = n ∧ 0 ≤ i' ∧ i' ≤ 4) (μ := fun (a, w, l, n, i) => (4 - i).toNat) ?_ (a, w, l, n, i) ⟨h1, rfl, h3, h4⟩
  rintro ⟨a, w, l', n', i⟩ ⟨rfl, rfl, k1, k2⟩ next hn
  rw [law3_RegionMay.R0_eq]
  unfold law3_RegionMay.round0
  obtain ⟨c1, c2, c3⟩ := law3_list_ok
  by_cases hj : i < 4
  · have hb : (decide (0 ≤ i) && decide (i < (law3_list.length : Int))) = true := by rw [c3]; simp; omega
    have hb' : decide (i < (law3_list.length : Int)) = true := by rw [c3]; simp; omega
    rw [hb, hb', law3_list_ne i k1 hj]
    simp only [Bool.cond_true]
    unfold law3_RegionMay.loop2
    rw [if_pos ⟨c1, c2, law3_list_u32, h2, rfl, by omega, by omega, by omega, fun p hp => by
      simp only [List.mem_cons, List.not_mem_nil, or_false] at hp
      rcases hp with rfl | rfl | rfl | rfl <;> exact U32_wrap _⟩]
    dsimp only
    rw [wrap_next k1 hj (by omega)]
    exact hn (a, w, law3_list, n', i + 1) ⟨rfl, rfl, by omega, by omega⟩ (by simp only; omega)
  · have hb' : decide (i < (law3_list.length : Int)) = false := by rw [c3]; simp; omega
    rw [hb']
    rfl
def law3_RegionMay.C : Cfg := { rows := [], keep := [(2, [0, 1, 7, 8, 9, 73, 74, 75], []), (1000002, [0, 1, 6, 7, 8, 9], []), (0, [0, 1, 7, 8, 9], []), (1000000, [6], []), (2000012, [0, 1, 7, 8, 9, 11, 12, 13, 73, 74, 75], []), (12000012, [0, 1, 7, 8, 9, 11, 12, 13, 73, 74, 75, 96], []), (2000018, [0, 1, 7, 8, 9, 11, 12, 13, 14, 15, 73, 74, 75], []), (12000018, [0, 1, 7, 8, 9, 11, 12, 13, 14, 15, 73, 74, 75, 107], []), (3000019, [0, 1, 7, 8, 9, 11, 12, 13, 14, 15, 73, 74, 75, 107], []), (13000019, [0, 1, 7, 8, 9, 11, 12, 13, 14, 15, 73, 74, 75], []), (3000017, [0, 1, 7, 8, 9, 11, 12, 13, 14, 15, 73, 74, 75, 102], []), (13000017, [0, 1, 7, 8, 9, 11, 12, 13, 14, 15, 73, 74, 75], []), (2000020, [0, 1, 7, 8, 9, 11, 12, 13, 14, 15, 73, 74, 75], []), (12000020, [0, 1, 7, 8, 9, 73, 74, 75, 179], [])], adopt := [] }
def law3_RegionMay.sum2000012 : FrV law3_RegionMay.T2000012.fr × StV law3_RegionMay.T2000012.st → (Ex → S → Option (List DVal)) → Option (List DVal) := fun ((v0, v1, v2, v3, v4, v5, v6, v7, v8, v9, v10, ()), (())) K => law3_RegionMay.s2000012 v0 v1 v2 v3 v4 v5 v6 v7 v8 v9 v10 (fun e0 e1 e2 e3 e4 e5 e6 e7 e8 e9 e10 e11 => K .normal (pack law3_RegionMay.X2000012_normal ((e0, e1, e2, e3, e4, e5, e6, e7, e8, e9, e10, e11, ()), (()))))
def law3_RegionMay.sum2000018 : FrV law3_RegionMay.T2000018.fr × StV law3_RegionMay.T2000018.st → (Ex → S → Option (List DVal)) → Option (List DVal) := fun ((v0, v1, v2, v3, v4, v5, v6, v7, v8, v9, v10, v11, v12, ()), (())) K => law3_RegionMay.s2000018 v0 v1 v2 v3 v4 v5 v6 v7 v8 v9 v10 v11 v12 (fun e0 e1 e2 e3 e4 e5 e6 e7 e8 e9 e10 e11 e12 e13 => K .normal (pack law3_RegionMay.X2000018_normal ((e0, e1, e2, e3, e4, e5, e6, e7, e8, e9, e10, e11, e12, e13, ()), (()))))
def law3_RegionMay.sum3000019 : FrV law3_RegionMay.T3000019.fr × StV law3_RegionMay.T3000019.st → (Ex → S → Option (List DVal)) → Option (List DVal) := fun ((v0, v1, v2, v3, v4, v5, v6, v7, v8, v9, v10, v11, v12, v13, ()), (())) K => law3_RegionMay.s3000019 v0 v1 v2 v3 v4 v5 v6 v7 v8 v9 v10 v11 v12 v13 (fun e0 e1 e2 e3 e4 e5 e6 e7 e8 e9 e10 e11 e12 => K .normal (pack law3_RegionMay.X3000019_normal ((e0, e1, e2, e3, e4, e5, e6, e7, e8, e9, e10, e11, e12, ()), (()))))
def law3_RegionMay.sum3000017 : FrV law3_RegionMay.T3000017.fr × StV law3_RegionMay.T3000017.st → (Ex → S → Option (List DVal)) → Option (List DVal) := fun ((v0, v1, v2, v3, v4, v5, v6, v7, v8, v9, v10, v11, v12, v13, ()), (())) K => law3_RegionMay.s3000017 v0 v1 v2 v3 v4 v5 v6 v7 v8 v9 v10 v11 v12 v13 (fun e0 e1 e2 e3 e4 e5 e6 e7 e8 e9 e10 e11 e12 => K .normal (pack law3_RegionMay.X3000017_normal ((e0, e1, e2, e3, e4, e5, e6, e7, e8, e9, e10, e11, e12, ()), (()))))
def law3_RegionMay.sum2000020 : FrV law3_RegionMay.T2000020.fr × StV law3_RegionMay.T2000020.st → (Ex → S → Option (List DVal)) → Option (List DVal) := fun ((v0, v1, v2, v3, v4, v5, v6, v7, v8, v9, v10, v11, v12, ()), (())) K => law3_RegionMay.s2000020 v0 v1 v2 v3 v4 v5 v6 v7 v8 v9 v10 v11 v12 (fun e0 e1 e2 e3 e4 e5 e6 e7 e8 => K .normal (pack law3_RegionMay.X2000020_normal ((e0, e1, e2, e3, e4, e5, e6, e7, e8, ()), (()))))
def law3_RegionMay.sum2 : FrV law3_RegionMay.T2.fr × StV law3_RegionMay.T2.st → (Ex → S → Option (List DVal)) → Option (List DVal) := fun ((v0, v1, v2, v3, v4, v5, v6, v7, ()), (())) K => law3_RegionMay.loop2 v0 v1 v2 v3 v4 v5 v6 v7 (fun e0 e1 e2 e3 e4 e5 => K .ret (pack law3_RegionMay.X2_ret ((e0, e1, e2, e3, e4, e5, ()), (())))) (fun e0 e1 e2 e3 e4 => K (.exit 2) (pack law3_RegionMay.X2_exit2 ((e0, e1, e2, e3, e4, ()), (()))))
def law3_RegionMay.rnd2 : FrV law3_RegionMay.T2.fr × StV law3_RegionMay.T2.st → (FrV law3_RegionMay.T2.fr × StV law3_RegionMay.T2.st → Option (List DVal)) → (Ex → S → Option (List DVal)) → Option (List DVal) := fun ((v0, v1, v2, v3, v4, v5, v6, v7, ()), (())) next K => law3_RegionMay.round2 v0 v1 v2 v3 v4 v5 v6 v7 (fun w0 w1 w2 w3 w4 w5 w6 w7 => next ((w0, w1, w2, w3, w4, w5, w6, w7, ()), (()))) (fun e0 e1 e2 e3 e4 e5 => K .ret (pack law3_RegionMay.X2_ret ((e0, e1, e2, e3, e4, e5, ()), (())))) (fun e0 e1 e2 e3 e4 => K (.exit 2) (pack law3_RegionMay.X2_exit2 ((e0, e1, e2, e3, e4, ()), (()))))
def law3_RegionMay.sum0 : FrV law3_RegionMay.T0.fr × StV law3_RegionMay.T0.st → (Ex → S → Option (List DVal)) → Option (List DVal) := fun ((v0, v1, v2, v3, v4, ()), (())) K => law3_RegionMay.loop0 v0 v1 v2 v3 v4 (fun e0 => K .ret (pack law3_RegionMay.X0_ret ((e0, ()), (())))) (K (.exit 0) (pack law3_RegionMay.X0_exit0 ((), ())))
def law3_RegionMay.rnd0 : FrV law3_RegionMay.T0.fr × StV law3_RegionMay.T0.st → (FrV law3_RegionMay.T0.fr × StV law3_RegionMay.T0.st → Option (List DVal)) → (Ex → S → Option (List DVal)) → Option (List DVal) := fun ((v0, v1, v2, v3, v4, ()), (())) next K => law3_RegionMay.round0 v0 v1 v2 v3 v4 (fun w0 w1 w2 w3 w4 => next ((w0, w1, w2, w3, w4, ()), (()))) (fun e0 => K .ret (pack law3_RegionMay.X0_ret ((e0, ()), (())))) (K (.exit 0) (pack law3_RegionMay.X0_exit0 ((), ())))
def law3_RegionMay.L : Nat → Option Sum := fun i => if i = 2 then some (sumOf law3_RegionMay.T2 law3_RegionMay.sum2) else if i = 0 then some (sumOf law3_RegionMay.T0 law3_RegionMay.sum0) else if i = 2000012 then some (sumOf law3_RegionMay.T2000012 law3_RegionMay.sum2000012) else if i = 2000018 then some (sumOf law3_RegionMay.T2000018 law3_RegionMay.sum2000018) else if i = 3000019 then some (sumOf law3_RegionMay.T3000019 law3_RegionMay.sum3000019) else if i = 3000017 then some (sumOf law3_RegionMay.T3000017 law3_RegionMay.sum3000017) else if i = 2000020 then some (sumOf law3_RegionMay.T2000020 law3_RegionMay.sum2000020) else none
theorem law3_RegionMay.rnd2_eq : ∀ v (r : S → Option (List DVal)) (K : Ex → S → Option (List DVal)), exec Try.prog law3_RegionMay.C law3_RegionMay.env law3_RegionMay.L 2 (loopOf Try.f9 2) (pack law3_RegionMay.T2 v) (fun e s' => match e with | .normal => r (trim law3_RegionMay.C 2 s') | e => K e (trim law3_RegionMay.C (2 + 1000000) s')) = law3_RegionMay.rnd2 v (fun v' => r (pack law3_RegionMay.T2 v')) K :=
  fun ((v0, v1, v2, v3, v4, v5, v6, v7, ()), (())) r K => by kernel_rfl
theorem law3_RegionMay.lp2 (K : Ex → S → Option (List DVal)) : ∀ (n : Nat) (v0 : Int) (v1 : Bool) (v2 : List (Int × Int × Bool × Bool × Bool × Bool × List Int × Unit)) (v3 : Int) (v4 : Int) (v5 : List Int) (v6 : Int) (v7 : Int), lp (fun v next => law3_RegionMay.rnd2 v next K) n ((v0, v1, v2, v3, v4, v5, v6, v7, ()), (())) = lp (law3_RegionMay.R2 (fun e0 e1 e2 e3 e4 e5 => K .ret (pack law3_RegionMay.X2_ret ((e0, e1, e2, e3, e4, e5, ()), (())))) (fun e0 e1 e2 e3 e4 => K (.exit 2) (pack law3_RegionMay.X2_exit2 ((e0, e1, e2, e3, e4, ()), (()))))) n (v0, v1, v2, v3, v4, v5, v6, v7) := by
  intro n
  induction n with
  | zero => intros; rfl
  | succ n ih =>
    intro v0 v1 v2 v3 v4 v5 v6 v7
    show law3_RegionMay.round2 v0 v1 v2 v3 v4 v5 v6 v7 (fun w0 w1 w2 w3 w4 w5 w6 w7 => lp (fun v next => law3_RegionMay.rnd2 v next K) n ((w0, w1, w2, w3, w4, w5, w6, w7, ()), (()))) (fun e0 e1 e2 e3 e4 e5 => K .ret (pack law3_RegionMay.X2_ret ((e0, e1, e2, e3, e4, e5, ()), (())))) (fun e0 e1 e2 e3 e4 => K (.exit 2) (pack law3_RegionMay.X2_exit2 ((e0, e1, e2, e3, e4, ()), (())))) = law3_RegionMay.round2 v0 v1 v2 v3 v4 v5 v6 v7 (fun w0 w1 w2 w3 w4 w5 w6 w7 => lp (law3_RegionMay.R2 (fun e0 e1 e2 e3 e4 e5 => K .ret (pack law3_RegionMay.X2_ret ((e0, e1, e2, e3, e4, e5, ()), (())))) (fun e0 e1 e2 e3 e4 => K (.exit 2) (pack law3_RegionMay.X2_exit2 ((e0, e1, e2, e3, e4, ()), (()))))) n (w0, w1, w2, w3, w4, w5, w6, w7)) (fun e0 e1 e2 e3 e4 e5 => K .ret (pack law3_RegionMay.X2_ret ((e0, e1, e2, e3, e4, e5, ()), (())))) (fun e0 e1 e2 e3 e4 => K (.exit 2) (pack law3_RegionMay.X2_exit2 ((e0, e1, e2, e3, e4, ()), (()))))
    simp only [ih]
theorem law3_RegionMay.sum2_ok : SumOk Try.prog law3_RegionMay.C law3_RegionMay.env law3_RegionMay.L 2 (loopOf Try.f9 2) := sumOk_lp (T := law3_RegionMay.T2) (rnd := law3_RegionMay.rnd2) (f := law3_RegionMay.sum2) rfl law3_RegionMay.rnd2_eq fun ((v0, v1, v2, v3, v4, v5, v6, v7, ()), (())) K r h => by
  obtain ⟨n, hn⟩ := law3_RegionMay.loop2_ok v0 v1 v2 v3 v4 v5 v6 v7 (fun e0 e1 e2 e3 e4 e5 => K .ret (pack law3_RegionMay.X2_ret ((e0, e1, e2, e3, e4, e5, ()), (())))) (fun e0 e1 e2 e3 e4 => K (.exit 2) (pack law3_RegionMay.X2_exit2 ((e0, e1, e2, e3, e4, ()), (())))) r h
  exact ⟨n, by rw [law3_RegionMay.lp2]; exact hn⟩
theorem law3_RegionMay.rnd0_eq : ∀ v (r : S → Option (List DVal)) (K : Ex → S → Option (List DVal)), exec Try.prog law3_RegionMay.C law3_RegionMay.env law3_RegionMay.L 0 (loopOf Try.f9 0) (pack law3_RegionMay.T0 v) (fun e s' => match e with | .normal => r (trim law3_RegionMay.C 0 s') | e => K e (trim law3_RegionMay.C (0 + 1000000) s')) = law3_RegionMay.rnd0 v (fun v' => r (pack law3_RegionMay.T0 v')) K :=
  fun ((v0, v1, v2, v3, v4, ()), (())) r K => by kernel_rfl
theorem law3_RegionMay.lp0 (K : Ex → S → Option (List DVal)) : ∀ (n : Nat) (v0 : Int) (v1 : Bool) (v2 : List (Int × Int × Bool × Bool × Bool × Bool × List Int × Unit)) (v3 : Int) (v4 : Int), lp (fun v next => law3_RegionMay.rnd0 v next K) n ((v0, v1, v2, v3, v4, ()), (())) = lp (law3_RegionMay.R0 (fun e0 => K .ret (pack law3_RegionMay.X0_ret ((e0, ()), (())))) (K (.exit 0) (pack law3_RegionMay.X0_exit0 ((), ())))) n (v0, v1, v2, v3, v4) := by
  intro n
  induction n with
  | zero => intros; rfl
  | succ n ih =>
    intro v0 v1 v2 v3 v4
    show law3_RegionMay.round0 v0 v1 v2 v3 v4 (fun w0 w1 w2 w3 w4 => lp (fun v next => law3_RegionMay.rnd0 v next K) n ((w0, w1, w2, w3, w4, ()), (()))) (fun e0 => K .ret (pack law3_RegionMay.X0_ret ((e0, ()), (())))) (K (.exit 0) (pack law3_RegionMay.X0_exit0 ((), ()))) = law3_RegionMay.round0 v0 v1 v2 v3 v4 (fun w0 w1 w2 w3 w4 => lp (law3_RegionMay.R0 (fun e0 => K .ret (pack law3_RegionMay.X0_ret ((e0, ()), (())))) (K (.exit 0) (pack law3_RegionMay.X0_exit0 ((), ())))) n (w0, w1, w2, w3, w4)) (fun e0 => K .ret (pack law3_RegionMay.X0_ret ((e0, ()), (())))) (K (.exit 0) (pack law3_RegionMay.X0_exit0 ((), ())))
    simp only [ih]
theorem law3_RegionMay.sum0_ok : SumOk Try.prog law3_RegionMay.C law3_RegionMay.env law3_RegionMay.L 0 (loopOf Try.f9 0) := sumOk_lp (T := law3_RegionMay.T0) (rnd := law3_RegionMay.rnd0) (f := law3_RegionMay.sum0) rfl law3_RegionMay.rnd0_eq fun ((v0, v1, v2, v3, v4, ()), (())) K r h => by
  obtain ⟨n, hn⟩ := law3_RegionMay.loop0_ok v0 v1 v2 v3 v4 (fun e0 => K .ret (pack law3_RegionMay.X0_ret ((e0, ()), (())))) (K (.exit 0) (pack law3_RegionMay.X0_exit0 ((), ()))) r h
  exact ⟨n, by rw [law3_RegionMay.lp0]; exact hn⟩
theorem law3_RegionMay.x2000012 : ∀ v (K : Ex → S → Option (List DVal)), exec1 Try.prog law3_RegionMay.C law3_RegionMay.env law3_RegionMay.L (spotOf Try.f9 2000012).2.1 (spotOf Try.f9 2000012).2.2 (pack law3_RegionMay.T2000012 v) (fun e s' => K e (trim law3_RegionMay.C (2000012 + 10000000) s')) = (fun (((v0, v1, v2, v3, v4, v5, v6, v7, v8, v9, v10, ()), (())) : FrV law3_RegionMay.T2000012.fr × StV law3_RegionMay.T2000012.st) => law3_RegionMay.o2000012 v0 v1 v2 v3 v4 v5 v6 v7 v8 v9 v10 (fun e0 e1 e2 e3 e4 e5 e6 e7 e8 e9 e10 e11 => K .normal (pack law3_RegionMay.X2000012_normal ((e0, e1, e2, e3, e4, e5, e6, e7, e8, e9, e10, e11, ()), (()))))) v :=
  fun ((v0, v1, v2, v3, v4, v5, v6, v7, v8, v9, v10, ()), (())) K => by kernel_rfl
theorem law3_RegionMay.sum2000012_ok : SpotOk Try.prog law3_RegionMay.C law3_RegionMay.env law3_RegionMay.L (spotOf Try.f9 2000012) := spotOk_of (T := law3_RegionMay.T2000012) (q := 2000012) (f := law3_RegionMay.sum2000012) (by kernel_rfl) (by kernel_rfl) fun ((v0, v1, v2, v3, v4, v5, v6, v7, v8, v9, v10, ()), (())) K r h => (law3_RegionMay.x2000012 _ K).trans ((law3_RegionMay.s2000012_eq v0 v1 v2 v3 v4 v5 v6 v7 v8 v9 v10 (fun e0 e1 e2 e3 e4 e5 e6 e7 e8 e9 e10 e11 => K .normal (pack law3_RegionMay.X2000012_normal ((e0, e1, e2, e3, e4, e5, e6, e7, e8, e9, e10, e11, ()), (()))))).symm.trans h)
theorem law3_RegionMay.x2000018 : ∀ v (K : Ex → S → Option (List DVal)), exec1 Try.prog law3_RegionMay.C law3_RegionMay.env law3_RegionMay.L (spotOf Try.f9 2000018).2.1 (spotOf Try.f9 2000018).2.2 (pack law3_RegionMay.T2000018 v) (fun e s' => K e (trim law3_RegionMay.C (2000018 + 10000000) s')) = (fun (((v0, v1, v2, v3, v4, v5, v6, v7, v8, v9, v10, v11, v12, ()), (())) : FrV law3_RegionMay.T2000018.fr × StV law3_RegionMay.T2000018.st) => law3_RegionMay.o2000018 v0 v1 v2 v3 v4 v5 v6 v7 v8 v9 v10 v11 v12 (fun e0 e1 e2 e3 e4 e5 e6 e7 e8 e9 e10 e11 e12 e13 => K .normal (pack law3_RegionMay.X2000018_normal ((e0, e1, e2, e3, e4, e5, e6, e7, e8, e9, e10, e11, e12, e13, ()), (()))))) v :=
  fun ((v0, v1, v2, v3, v4, v5, v6, v7, v8, v9, v10, v11, v12, ()), (())) K => by kernel_rfl
theorem law3_RegionMay.sum2000018_ok : SpotOk Try.prog law3_RegionMay.C law3_RegionMay.env law3_RegionMay.L (spotOf Try.f9 2000018) := spotOk_of (T := law3_RegionMay.T2000018) (q := 2000018) (f := law3_RegionMay.sum2000018) (by kernel_rfl) (by kernel_rfl) fun ((v0, v1, v2, v3, v4, v5, v6, v7, v8, v9, v10, v11, v12, ()), (())) K r h => (law3_RegionMay.x2000018 _ K).trans ((law3_RegionMay.s2000018_eq v0 v1 v2 v3 v4 v5 v6 v7 v8 v9 v10 v11 v12 (fun e0 e1 e2 e3 e4 e5 e6 e7 e8 e9 e10 e11 e12 e13 => K .normal (pack law3_RegionMay.X2000018_normal ((e0, e1, e2, e3, e4, e5, e6, e7, e8, e9, e10, e11, e12, e13, ()), (()))))).symm.trans h)
theorem law3_RegionMay.x3000019 : ∀ v (K : Ex → S → Option (List DVal)), exec1 Try.prog law3_RegionMay.C law3_RegionMay.env law3_RegionMay.L (spotOf Try.f9 3000019).2.1 (spotOf Try.f9 3000019).2.2 (pack law3_RegionMay.T3000019 v) (fun e s' => K e (trim law3_RegionMay.C (3000019 + 10000000) s')) = (fun (((v0, v1, v2, v3, v4, v5, v6, v7, v8, v9, v10, v11, v12, v13, ()), (())) : FrV law3_RegionMay.T3000019.fr × StV law3_RegionMay.T3000019.st) => law3_RegionMay.o3000019 v0 v1 v2 v3 v4 v5 v6 v7 v8 v9 v10 v11 v12 v13 (fun e0 e1 e2 e3 e4 e5 e6 e7 e8 e9 e10 e11 e12 => K .normal (pack law3_RegionMay.X3000019_normal ((e0, e1, e2, e3, e4, e5, e6, e7, e8, e9, e10, e11, e12, ()), (()))))) v :=
  fun ((v0, v1, v2, v3, v4, v5, v6, v7, v8, v9, v10, v11, v12, v13, ()), (())) K => by kernel_rfl
theorem law3_RegionMay.sum3000019_ok : SpotOk Try.prog law3_RegionMay.C law3_RegionMay.env law3_RegionMay.L (spotOf Try.f9 3000019) := spotOk_of (T := law3_RegionMay.T3000019) (q := 3000019) (f := law3_RegionMay.sum3000019) (by kernel_rfl) (by kernel_rfl) fun ((v0, v1, v2, v3, v4, v5, v6, v7, v8, v9, v10, v11, v12, v13, ()), (())) K r h => (law3_RegionMay.x3000019 _ K).trans ((law3_RegionMay.s3000019_eq v0 v1 v2 v3 v4 v5 v6 v7 v8 v9 v10 v11 v12 v13 (fun e0 e1 e2 e3 e4 e5 e6 e7 e8 e9 e10 e11 e12 => K .normal (pack law3_RegionMay.X3000019_normal ((e0, e1, e2, e3, e4, e5, e6, e7, e8, e9, e10, e11, e12, ()), (()))))).symm.trans h)
theorem law3_RegionMay.x3000017 : ∀ v (K : Ex → S → Option (List DVal)), exec1 Try.prog law3_RegionMay.C law3_RegionMay.env law3_RegionMay.L (spotOf Try.f9 3000017).2.1 (spotOf Try.f9 3000017).2.2 (pack law3_RegionMay.T3000017 v) (fun e s' => K e (trim law3_RegionMay.C (3000017 + 10000000) s')) = (fun (((v0, v1, v2, v3, v4, v5, v6, v7, v8, v9, v10, v11, v12, v13, ()), (())) : FrV law3_RegionMay.T3000017.fr × StV law3_RegionMay.T3000017.st) => law3_RegionMay.o3000017 v0 v1 v2 v3 v4 v5 v6 v7 v8 v9 v10 v11 v12 v13 (fun e0 e1 e2 e3 e4 e5 e6 e7 e8 e9 e10 e11 e12 => K .normal (pack law3_RegionMay.X3000017_normal ((e0, e1, e2, e3, e4, e5, e6, e7, e8, e9, e10, e11, e12, ()), (()))))) v :=
  fun ((v0, v1, v2, v3, v4, v5, v6, v7, v8, v9, v10, v11, v12, v13, ()), (())) K => by kernel_rfl
theorem law3_RegionMay.sum3000017_ok : SpotOk Try.prog law3_RegionMay.C law3_RegionMay.env law3_RegionMay.L (spotOf Try.f9 3000017) := spotOk_of (T := law3_RegionMay.T3000017) (q := 3000017) (f := law3_RegionMay.sum3000017) (by kernel_rfl) (by kernel_rfl) fun ((v0, v1, v2, v3, v4, v5, v6, v7, v8, v9, v10, v11, v12, v13, ()), (())) K r h => (law3_RegionMay.x3000017 _ K).trans ((law3_RegionMay.s3000017_eq v0 v1 v2 v3 v4 v5 v6 v7 v8 v9 v10 v11 v12 v13 (fun e0 e1 e2 e3 e4 e5 e6 e7 e8 e9 e10 e11 e12 => K .normal (pack law3_RegionMay.X3000017_normal ((e0, e1, e2, e3, e4, e5, e6, e7, e8, e9, e10, e11, e12, ()), (()))))).symm.trans h)
theorem law3_RegionMay.x2000020 : ∀ v (K : Ex → S → Option (List DVal)), exec1 Try.prog law3_RegionMay.C law3_RegionMay.env law3_RegionMay.L (spotOf Try.f9 2000020).2.1 (spotOf Try.f9 2000020).2.2 (pack law3_RegionMay.T2000020 v) (fun e s' => K e (trim law3_RegionMay.C (2000020 + 10000000) s')) = (fun (((v0, v1, v2, v3, v4, v5, v6, v7, v8, v9, v10, v11, v12, ()), (())) : FrV law3_RegionMay.T2000020.fr × StV law3_RegionMay.T2000020.st) => law3_RegionMay.o2000020 v0 v1 v2 v3 v4 v5 v6 v7 v8 v9 v10 v11 v12 (fun e0 e1 e2 e3 e4 e5 e6 e7 e8 => K .normal (pack law3_RegionMay.X2000020_normal ((e0, e1, e2, e3, e4, e5, e6, e7, e8, ()), (()))))) v :=
  fun ((v0, v1, v2, v3, v4, v5, v6, v7, v8, v9, v10, v11, v12, ()), (())) K => by kernel_rfl
theorem law3_RegionMay.sum2000020_ok : SpotOk Try.prog law3_RegionMay.C law3_RegionMay.env law3_RegionMay.L (spotOf Try.f9 2000020) := spotOk_of (T := law3_RegionMay.T2000020) (q := 2000020) (f := law3_RegionMay.sum2000020) (by kernel_rfl) (by kernel_rfl) fun ((v0, v1, v2, v3, v4, v5, v6, v7, v8, v9, v10, v11, v12, ()), (())) K r h => (law3_RegionMay.x2000020 _ K).trans ((law3_RegionMay.s2000020_eq v0 v1 v2 v3 v4 v5 v6 v7 v8 v9 v10 v11 v12 (fun e0 e1 e2 e3 e4 e5 e6 e7 e8 => K .normal (pack law3_RegionMay.X2000020_normal ((e0, e1, e2, e3, e4, e5, e6, e7, e8, ()), (()))))).symm.trans h)
def law3_RegionMay.tree {R : Type} (a0 : Int) (a1 : Bool) (a2 : Int) (ret : Bool → Option R) : Option R :=
  bif decide ((0 : Int) ≤ Int.tmod a2 (3 : Int)) && decide (Int.tmod a2 (3 : Int) < (3 : Int)) then law3_RegionMay.loop0 a0 a1 [((32768 : Int), (1024 : Int), true, false, true, false, nilOf Int, ()), ((536870912 : Int), (256 : Int), true, true, false, false, nilOf Int, ()), ((805306368 : Int), (128 : Int), true, true, false, true, nilOf Int, ()), ((1073741824 : Int), (128 : Int), true, true, true, false, nilOf Int, ())] (List.getD [(1 : Int), (2 : Int), (4 : Int)] (Int.toNat (Int.tmod a2 (3 : Int))) (0 : Int)) (0 : Int) (fun e0 => ret e0) (ret true) else none
theorem law3_RegionMay.eq (a0 : Int) (a1 : Bool) (a2 : Int) : body Try.prog law3_RegionMay.C law3_RegionMay.env law3_RegionMay.L Try.f9 [⟨Ty.int IntKind.u32, a0⟩, ⟨Ty.bool, a1⟩, ⟨Ty.int IntKind.u8, a2⟩] = law3_RegionMay.tree a0 a1 a2 (fun r0 => some ([⟨Ty.bool, r0⟩] : List DVal)) := by kernel_rfl
def law3_RegionMay.pre (a : Int) (w : Bool) (n : Int) : Bool := decide (0 ≤ n)
def law3_RegionMay (a : Int) (w : Bool) (n : Int) : Bool := true
theorem law3_RegionMay.nice {R : Type} (a : Int) (w : Bool) (n : Int) (hp : law3_RegionMay.pre a w n = true) (ret : Bool → Option R) : law3_RegionMay.tree a w n ret = ret (law3_RegionMay a w n) := by
  have hq : 0 ≤ n := of_decide_eq_true hp
  unfold law3_RegionMay.tree
  rw [Int.tmod_eq_emod_of_nonneg hq]
  have h1 : 0 ≤ n % 3 := by omega
  have h2 : n % 3 < 3 := by omega
  generalize n % 3 = k at h1 h2
  rw [decide_eq_true h1, decide_eq_true h2]
  simp only [Bool.and_self, Bool.cond_true]
  change law3_RegionMay.loop0 a w law3_list _ _ _ _ = _
  unfold law3_RegionMay.loop0
  rw [if_pos ⟨rfl, by rcases (by omega : k = 0 ∨ k = 1 ∨ k = 2) with rfl | rfl | rfl <;> simp, by omega, by omega⟩]
  rfl

def law3_RegionMay.ctr : Ctr := ctrOf [Ty.int IntKind.u32, Ty.bool, Ty.int IntKind.u8] fun x => .guard (law3_RegionMay.pre (x.1) (x.2.1) (x.2.2.1)) (.ret [⟨Ty.bool, law3_RegionMay (x.1) (x.2.1) (x.2.2.1)⟩])
theorem law3_RegionMay.known : Known Try.prog 9 law3_RegionMay.ctr :=
  known_plain law3_RegionMay.envOk mixed Try.func9 (by kernel_rfl) (by kernel_rfl) (byId (by kernel_rfl : loopIds Try.f9 = [0, 2]) (by intro q hq; simp only [List.mem_cons, List.not_mem_nil, or_false] at hq; rcases hq with rfl | rfl<;> first | exact law3_RegionMay.sum2_ok | exact law3_RegionMay.sum0_ok)) (bySpot (ids := [2000012, 2000018, 3000019, 3000017, 2000020]) (by kernel_rfl) (by intro q hq; simp only [List.mem_cons, List.not_mem_nil, or_false] at hq; rcases hq with rfl | rfl | rfl | rfl | rfl <;> first | exact law3_RegionMay.sum2000012_ok | exact law3_RegionMay.sum2000018_ok | exact law3_RegionMay.sum3000019_ok | exact law3_RegionMay.sum3000017_ok | exact law3_RegionMay.sum2000020_ok)) fun x rs h => by
    obtain ⟨a0, a1, a2, u⟩ := x
    cases u
    simp only [Cmd.val_guard, Cmd.val_ret] at h
    split at h <;> try (cases h; done)
    rename_i hp
    exact (law3_RegionMay.eq a0 a1 a2).trans ((law3_RegionMay.nice a0 a1 a2 hp (fun r0 => some ([⟨Ty.bool, r0⟩] : List DVal))).trans h)
end
end Go.D.Ytmdnddoiopgboaa
