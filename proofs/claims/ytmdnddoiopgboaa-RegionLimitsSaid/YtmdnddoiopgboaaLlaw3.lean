import Derived.Test.YtmdnddoiopgboaaChecked
import Derived.Test.YtmdnddoiopgboaaDW
import Derived.KernelRfl
import Derived.Test.YtmdnddoiopgboaaLregion
namespace Go.D.Ytmdnddoiopgboaa
open Go.Proofs
set_option linter.unusedVariables false
set_option linter.unusedSimpArgs false
set_option maxRecDepth 100000


/-! ### law3_known -/
def law3_known.env : Env := envCons 24 seat_Regions.ctr <| envCons 27 region_Find.ctr <| envCons 25 region_Check.ctr <| envCons 29 region_May.ctr <| envCons 35 region_Exec.ctr <| envCons 31 region_Secret.ctr <| envCons 33 region_Fixed.ctr <| envNil
theorem law3_known.envOk : EnvOk Try.prog law3_known.env := envOk_cons seat_Regions.known (envOk_cons region_Find.known (envOk_cons region_Check.known (envOk_cons region_May.known (envOk_cons region_Exec.known (envOk_cons region_Secret.known (envOk_cons region_Fixed.known (envOk_nil _)))))))
def law3_known.C : Cfg := { rows := [], keep := [], adopt := [] }
def law3_known.tree {R : Type}  (ret : Bool → Option R) : Option R :=
  ret true
theorem law3_known.eq  : body Try.prog law3_known.C law3_known.env noL Try.f21 [] = law3_known.tree  (fun r0 => some ([⟨Ty.bool, r0⟩] : List DVal)) := by kernel_rfl
def law3_known  : Bool :=
  true
theorem law3_known.nice {R : Type}  (ret : Bool → Option R) : law3_known.tree  ret = ret (law3_known ) := by
  unfold law3_known.tree law3_known
  simp only [Bool.apply_cond ret]
def law3_known.ctr : Ctr := ctrOf [] fun x => .ret [⟨Ty.bool, law3_known ⟩]
theorem law3_known.known : Known Try.prog 21 law3_known.ctr :=
  known_plain law3_known.envOk mixed Try.func21 (by kernel_rfl) (by kernel_rfl) (noLoops (by kernel_rfl)) fun x rs h => by
    have u := x
    cases x
    simp only [Cmd.val_ret] at h
    exact (law3_known.eq ).trans ((law3_known.nice  (fun r0 => some ([⟨Ty.bool, r0⟩] : List DVal))).trans h)

/-! ### law3_RegionLimits -/
def law3_RegionLimits.env : Env := envCons 21 law3_known.ctr <| envCons 25 region_Check.ctr <| envNil
theorem law3_RegionLimits.envOk : EnvOk Try.prog law3_RegionLimits.env := envOk_cons law3_known.known (envOk_cons region_Check.known (envOk_nil _))
def law3_RegionLimits.T0 : Tm := ⟨[Sl.any, Sl.any, Sl.any, Sl.any, Sl.any, Sl.any, Sl.any, Sl.ref (1007 : Nat), Sl.data (Ty.int IntKind.i64), Sl.data (Ty.int IntKind.i64), Sl.any, Sl.any, Sl.any, Sl.any, Sl.any, Sl.any, Sl.any, Sl.any, Sl.any, Sl.any, Sl.any, Sl.any, Sl.any, Sl.any, Sl.any, Sl.any, Sl.any, Sl.any, Sl.any, Sl.any, Sl.any, Sl.any, Sl.any, Sl.any, Sl.any, Sl.any, Sl.any, Sl.any, Sl.any, Sl.any, Sl.any, Sl.any, Sl.any, Sl.any, Sl.any, Sl.any, Sl.any, Sl.any, Sl.any, Sl.any, Sl.any, Sl.any, Sl.any, Sl.any, Sl.any], [{ k := (1007 : Nat), t := Ty.own RT, vir := true }]⟩
def law3_RegionLimits.X0_exit0 : Tm := ⟨[Sl.any, Sl.any, Sl.any, Sl.any, Sl.any, Sl.any, Sl.any, Sl.ref (1007 : Nat), Sl.data (Ty.int IntKind.i64), Sl.any, Sl.any, Sl.any, Sl.any, Sl.any, Sl.any, Sl.any, Sl.any, Sl.any, Sl.any, Sl.any, Sl.any, Sl.any, Sl.any, Sl.any, Sl.any, Sl.any, Sl.any, Sl.any, Sl.any, Sl.any, Sl.any, Sl.any, Sl.any, Sl.any, Sl.any, Sl.any, Sl.any, Sl.any, Sl.any, Sl.any, Sl.any, Sl.any, Sl.any, Sl.any, Sl.any, Sl.any, Sl.any, Sl.any, Sl.any, Sl.any, Sl.any, Sl.any, Sl.any, Sl.any, Sl.any], [{ k := (1007 : Nat), t := Ty.own RT, vir := true }]⟩
def law3_RegionLimits.round0 {R : Type} (v0 : Int) (v1 : Int) (v2 : List (Int × Int × Bool × Bool × Bool × Bool × List Int × Unit)) (next : Int → Int → (List (Int × Int × Bool × Bool × Bool × Bool × List Int × Unit)) → Option R) (kexit0 : Int → (List (Int × Int × Bool × Bool × Bool × Bool × List Int × Unit)) → Option R) : Option R :=
  bif decide (v1 < v0) then bif roomOk (List.length v2 + (1 : Nat)) (40 : Nat) then next v0 (IntKind.wrap IntKind.i64 (v1 + (1 : Int))) (v2 ++ [(IntKind.wrap IntKind.u32 (IntKind.wrap IntKind.u32 v1 * (8 : Int)), (8 : Int), true, false, false, false, [], ())]) else none else kexit0 v0 v2
def law3_RegionLimits.R0 {R : Type} (kexit0 : Int → (List (Int × Int × Bool × Bool × Bool × Bool × List Int × Unit)) → Option R) : (Int × Int × (List (Int × Int × Bool × Bool × Bool × Bool × List Int × Unit))) → ((Int × Int × (List (Int × Int × Bool × Bool × Bool × Bool × List Int × Unit))) → Option R) → Option R := fun (v0, v1, v2) next => law3_RegionLimits.round0 v0 v1 v2 (fun w0 w1 w2 => next (w0, w1, w2)) kexit0
theorem law3_RegionLimits.R0_eq {R : Type} (kexit0 : Int → (List (Int × Int × Bool × Bool × Bool × Bool × List Int × Unit)) → Option R) (v0 : Int) (v1 : Int) (v2 : List (Int × Int × Bool × Bool × Bool × Bool × List Int × Unit)) (next : (Int × Int × (List (Int × Int × Bool × Bool × Bool × Bool × List Int × Unit))) → Option R) : law3_RegionLimits.R0 kexit0 (v0, v1, v2) next = law3_RegionLimits.round0 v0 v1 v2 (fun w0 w1 w2 => next (w0, w1, w2)) kexit0 := rfl
def law3_regs : Nat → List Reg
  | 0 => []
  | n + 1 => law3_regs n ++ ([(((8 * n : Nat) : Int), 8, true, false, false, false, [], ())] : List Reg)
def law3_RegionLimits.loop0 {R : Type} (k i : Int) (l : List Reg) (x : Int → List Reg → Option R) : Option R :=
  match l with
  | [] => if 5 ≤ k ∧ k ≤ 10 ∧ i = 0 then x k (law3_regs k.toNat) else none
  | _ => none
theorem law3_RegionLimits.loop0_ok {R : Type} (k i : Int) (l : List Reg) (x : Int → List Reg → Option R) (r : R) (h : law3_RegionLimits.loop0 k i l x = some r) : ∃ f, lp (law3_RegionLimits.R0 x) f (k, i, l) = some r := by
  unfold law3_RegionLimits.loop0 at h
  split at h
  · split at h
    · rename_i hc
      obtain ⟨h1, h2, h3⟩ := hc
      refine ⟨11, ?_⟩
      rw [← h]
      subst h3
      rcases (by omega : k = 5 ∨ k = 6 ∨ k = 7 ∨ k = 8 ∨ k = 9 ∨ k = 10) with rfl | rfl | rfl | rfl | rfl | rfl <;> kernel_rfl
    · cases h
  · cases h
def law3_RegionLimits.C : Cfg := { rows := [], keep := [(0, [7, 8, 9], [1007]), (1000000, [6, 7, 8], [1007])], adopt := [(0, 7, 1007, RT)] }
def law3_RegionLimits.sum0 : FrV law3_RegionLimits.T0.fr × StV law3_RegionLimits.T0.st → (Ex → S → Option (List DVal)) → Option (List DVal) := fun ((v0, v1, ()), (v2, ())) K => law3_RegionLimits.loop0 v0 v1 v2 (fun e0 e1 => K (.exit 0) (pack law3_RegionLimits.X0_exit0 ((e0, ()), (e1, ()))))
def law3_RegionLimits.rnd0 : FrV law3_RegionLimits.T0.fr × StV law3_RegionLimits.T0.st → (FrV law3_RegionLimits.T0.fr × StV law3_RegionLimits.T0.st → Option (List DVal)) → (Ex → S → Option (List DVal)) → Option (List DVal) := fun ((v0, v1, ()), (v2, ())) next K => law3_RegionLimits.round0 v0 v1 v2 (fun w0 w1 w2 => next ((w0, w1, ()), (w2, ()))) (fun e0 e1 => K (.exit 0) (pack law3_RegionLimits.X0_exit0 ((e0, ()), (e1, ()))))
def law3_RegionLimits.L : Nat → Option Sum := fun i => if i = 0 then some (sumOf law3_RegionLimits.T0 law3_RegionLimits.sum0) else none
theorem law3_RegionLimits.rnd0_eq : ∀ v (r : S → Option (List DVal)) (K : Ex → S → Option (List DVal)), exec Try.prog law3_RegionLimits.C law3_RegionLimits.env law3_RegionLimits.L 0 (loopOf Try.f7 0) (pack law3_RegionLimits.T0 v) (fun e s' => match e with | .normal => r (trim law3_RegionLimits.C 0 s') | e => K e (trim law3_RegionLimits.C (0 + 1000000) s')) = law3_RegionLimits.rnd0 v (fun v' => r (pack law3_RegionLimits.T0 v')) K :=
  fun ((v0, v1, ()), (v2, ())) r K => by kernel_rfl
theorem law3_RegionLimits.lp0 (K : Ex → S → Option (List DVal)) : ∀ (n : Nat) (v0 : Int) (v1 : Int) (v2 : List (Int × Int × Bool × Bool × Bool × Bool × List Int × Unit)), lp (fun v next => law3_RegionLimits.rnd0 v next K) n ((v0, v1, ()), (v2, ())) = lp (law3_RegionLimits.R0 (fun e0 e1 => K (.exit 0) (pack law3_RegionLimits.X0_exit0 ((e0, ()), (e1, ()))))) n (v0, v1, v2) := by
  intro n
  induction n with
  | zero => intros; rfl
  | succ n ih =>
    intro v0 v1 v2
    show law3_RegionLimits.round0 v0 v1 v2 (fun w0 w1 w2 => lp (fun v next => law3_RegionLimits.rnd0 v next K) n ((w0, w1, ()), (w2, ()))) (fun e0 e1 => K (.exit 0) (pack law3_RegionLimits.X0_exit0 ((e0, ()), (e1, ())))) = law3_RegionLimits.round0 v0 v1 v2 (fun w0 w1 w2 => lp (law3_RegionLimits.R0 (fun e0 e1 => K (.exit 0) (pack law3_RegionLimits.X0_exit0 ((e0, ()), (e1, ()))))) n (w0, w1, w2)) (fun e0 e1 => K (.exit 0) (pack law3_RegionLimits.X0_exit0 ((e0, ()), (e1, ()))))
    simp only [ih]
theorem law3_RegionLimits.sum0_ok : SumOk Try.prog law3_RegionLimits.C law3_RegionLimits.env law3_RegionLimits.L 0 (loopOf Try.f7 0) := sumOk_lp (T := law3_RegionLimits.T0) (rnd := law3_RegionLimits.rnd0) (f := law3_RegionLimits.sum0) rfl law3_RegionLimits.rnd0_eq fun ((v0, v1, ()), (v2, ())) K r h => by
  obtain ⟨n, hn⟩ := law3_RegionLimits.loop0_ok v0 v1 v2 (fun e0 e1 => K (.exit 0) (pack law3_RegionLimits.X0_exit0 ((e0, ()), (e1, ())))) r h
  exact ⟨n, by rw [law3_RegionLimits.lp0]; exact hn⟩
def law3_RegionLimits.tree {R : Type} (a0 : Int) (a1 : Int) (a2 : Bool) (ret : Bool → Option R) : Option R :=
  bif a2 then law3_RegionLimits.loop0 (IntKind.wrap IntKind.i64 (IntKind.wrap IntKind.i64 (IntKind.wrap IntKind.i64 (Int.tmod a0 (6 : Int)) + (8 : Int)) - (3 : Int))) (0 : Int) [] fun e0 e1 => bif decide (e0 > (8 : Int)) then bif region_Check.pre e1 then ret (region_Check e1 == (22 : Int)) else none else bif region_Check.pre e1 then ret (region_Check e1 == (0 : Int)) else none else bif decide (IntKind.wrap IntKind.u32 (IntKind.wrap IntKind.u32 ((65528 : Int) + IntKind.wrap IntKind.u32 (Int.tmod a1 (5 : Int) * (4 : Int))) + (4 : Int)) > (65536 : Int)) then bif region_Check.pre [((0 : Int), IntKind.wrap IntKind.u32 ((65528 : Int) + IntKind.wrap IntKind.u32 (Int.tmod a1 (5 : Int) * (4 : Int))), true, false, false, false, [], ()), (IntKind.wrap IntKind.u32 ((65528 : Int) + IntKind.wrap IntKind.u32 (Int.tmod a1 (5 : Int) * (4 : Int))), (4 : Int), true, false, false, false, [], ())] then ret (region_Check [((0 : Int), IntKind.wrap IntKind.u32 ((65528 : Int) + IntKind.wrap IntKind.u32 (Int.tmod a1 (5 : Int) * (4 : Int))), true, false, false, false, [], ()), (IntKind.wrap IntKind.u32 ((65528 : Int) + IntKind.wrap IntKind.u32 (Int.tmod a1 (5 : Int) * (4 : Int))), (4 : Int), true, false, false, false, [], ())] == (22 : Int)) else none else bif region_Check.pre [((0 : Int), IntKind.wrap IntKind.u32 ((65528 : Int) + IntKind.wrap IntKind.u32 (Int.tmod a1 (5 : Int) * (4 : Int))), true, false, false, false, [], ()), (IntKind.wrap IntKind.u32 ((65528 : Int) + IntKind.wrap IntKind.u32 (Int.tmod a1 (5 : Int) * (4 : Int))), (4 : Int), true, false, false, false, [], ())] then ret (region_Check [((0 : Int), IntKind.wrap IntKind.u32 ((65528 : Int) + IntKind.wrap IntKind.u32 (Int.tmod a1 (5 : Int) * (4 : Int))), true, false, false, false, [], ()), (IntKind.wrap IntKind.u32 ((65528 : Int) + IntKind.wrap IntKind.u32 (Int.tmod a1 (5 : Int) * (4 : Int))), (4 : Int), true, false, false, false, [], ())] == (0 : Int)) else none
theorem law3_RegionLimits.eq (a0 : Int) (a1 : Int) (a2 : Bool) : body Try.prog law3_RegionLimits.C law3_RegionLimits.env law3_RegionLimits.L Try.f7 [⟨Ty.int IntKind.u8, a0⟩, ⟨Ty.int IntKind.u32, a1⟩, ⟨Ty.bool, a2⟩] = law3_RegionLimits.tree a0 a1 a2 (fun r0 => some ([⟨Ty.bool, r0⟩] : List DVal)) := by kernel_rfl
def law3_RegionLimits.pre (n long : Int) (which : Bool) : Bool := decide (0 ≤ n ∧ n ≤ 255 ∧ 0 ≤ long)
def law3_RegionLimits (n long : Int) (which : Bool) : Bool := true
theorem law3_regs_ok : ∀ k : Int, 5 ≤ k → k ≤ 10 → region_Check.pre (law3_regs k.toNat) = true ∧ region_Check (law3_regs k.toNat) = bif decide (k > 8) then 22 else 0 := by
  intro k h1 h2
  rcases (by omega : k = 5 ∨ k = 6 ∨ k = 7 ∨ k = 8 ∨ k = 9 ∨ k = 10) with rfl | rfl | rfl | rfl | rfl | rfl <;> exact ⟨by kernel_rfl, by kernel_rfl⟩
theorem law3_two : ∀ m : Int, 0 ≤ m → m ≤ 4 → (bif decide (IntKind.wrap IntKind.u32 (IntKind.wrap IntKind.u32 ((65528 : Int) + IntKind.wrap IntKind.u32 (m * (4 : Int))) + (4 : Int)) > (65536 : Int)) then (22 : Int) else 0) = region_Check [((0 : Int), IntKind.wrap IntKind.u32 ((65528 : Int) + IntKind.wrap IntKind.u32 (m * (4 : Int))), true, false, false, false, [], ()), (IntKind.wrap IntKind.u32 ((65528 : Int) + IntKind.wrap IntKind.u32 (m * (4 : Int))), (4 : Int), true, false, false, false, [], ())] := by
  intro k h1 h2
  rcases (by omega : k = 0 ∨ k = 1 ∨ k = 2 ∨ k = 3 ∨ k = 4) with rfl | rfl | rfl | rfl | rfl <;> kernel_rfl
theorem law3_RegionLimits.nice {R : Type} (n long : Int) (which : Bool) (hp : law3_RegionLimits.pre n long which = true) (ret : Bool → Option R) : law3_RegionLimits.tree n long which ret = ret (law3_RegionLimits n long which) := by
  have hq : 0 ≤ n ∧ n ≤ 255 ∧ 0 ≤ long := of_decide_eq_true hp
  clear hp
  unfold law3_RegionLimits.tree law3_RegionLimits
  cases which with
  | true =>
    have hk : IntKind.wrap IntKind.i64 (IntKind.wrap IntKind.i64 (IntKind.wrap IntKind.i64 (Int.tmod n (6 : Int)) + (8 : Int)) - (3 : Int)) = n % 6 + 5 := by
      rw [Int.tmod_eq_emod_of_nonneg hq.1]
      simp only [IntKind.wrap_i64]
      omega
    rw [hk]
    simp only [Bool.cond_true]
    unfold law3_RegionLimits.loop0
    dsimp only
    rw [if_pos ⟨by omega, by omega, rfl⟩]
    obtain ⟨h1, h2⟩ := law3_regs_ok (n % 6 + 5) (by omega) (by omega)
    rw [h1, h2]
    cases decide (n % 6 + 5 > 8) <;> rfl
  | false =>
    simp only [Bool.cond_false]
    rw [(fun k => by kernel_rfl : ∀ k : Int, region_Check.pre [((0 : Int), k, true, false, false, false, [], ()), (k, (4 : Int), true, false, false, false, [], ())] = true), ← law3_two (Int.tmod long 5) (Int.tmod_nonneg _ hq.2.2) (by rw [Int.tmod_eq_emod_of_nonneg hq.2.2]; omega)]
    cases decide (IntKind.wrap IntKind.u32 (IntKind.wrap IntKind.u32 ((65528 : Int) + IntKind.wrap IntKind.u32 (Int.tmod long (5 : Int) * (4 : Int))) + (4 : Int)) > (65536 : Int)) <;> rfl

def law3_RegionLimits.ctr : Ctr := ctrOf [Ty.int IntKind.u8, Ty.int IntKind.u32, Ty.bool] fun x => .guard (law3_RegionLimits.pre (x.1) (x.2.1) (x.2.2.1)) (.ret [⟨Ty.bool, law3_RegionLimits (x.1) (x.2.1) (x.2.2.1)⟩])
theorem law3_RegionLimits.known : Known Try.prog 7 law3_RegionLimits.ctr :=
  known_plain law3_RegionLimits.envOk mixed Try.func7 (by kernel_rfl) (by kernel_rfl) (byId (by kernel_rfl : loopIds Try.f7 = [0]) (by intro q hq; simp only [List.mem_cons, List.not_mem_nil, or_false] at hq; subst hq; first | exact law3_RegionLimits.sum0_ok)) fun x rs h => by
    obtain ⟨a0, a1, a2, u⟩ := x
    cases u
    simp only [Cmd.val_guard, Cmd.val_ret] at h
    split at h <;> try (cases h; done)
    rename_i hp
    exact (law3_RegionLimits.eq a0 a1 a2).trans ((law3_RegionLimits.nice a0 a1 a2 hp (fun r0 => some ([⟨Ty.bool, r0⟩] : List DVal))).trans h)
end Go.D.Ytmdnddoiopgboaa
