import Derived.Test.YtbcjiicaekfjlaaChecked
import Derived.Test.YtbcjiicaekfjlaaDX
import Derived.KernelRfl
import Derived.Test.YtbcjiicaekfjlaaLhost2
namespace Go.D.Ytbcjiicaekfjlaa
open Go.Proofs
set_option linter.unusedVariables false
set_option linter.unusedSimpArgs false
set_option maxRecDepth 100000
noncomputable section


/-! ### law5_HostTells -/
def law5_HostTells.env : Env := envCons 14 law5_known.ctr <| envCons 15 law5_same.ctr <| envNil
theorem law5_HostTells.envOk : EnvOk Try.prog law5_HostTells.env := envOk_cons law5_known.known (envOk_cons law5_same.known (envOk_nil _))
def law5_HostTells.T0 : Tm := ⟨fill 0 15 [(0, Sl.data (Ty.int IntKind.i64)), (3, Sl.data (Ty.int IntKind.i64))], []⟩
def law5_HostTells.X0_ret : Tm := ⟨fill 0 15 [(0, Sl.data (Ty.int IntKind.i64)), (2, Sl.data Ty.bool)], []⟩
def law5_HostTells.X0_exit0 : Tm := ⟨fill 0 15 [(0, Sl.data (Ty.int IntKind.i64))], []⟩
def law5_HostTells.round0 {R : Type} (v0 : Int) (v1 : Int) (next : Int → Int → Option R) (kret : Int → Bool → Option R) (kexit0 : Int → Option R) : Option R :=
  bif decide (v1 ≤ (33 : Int)) then bif !law5_same v1 then kret v0 false else next v0 (IntKind.wrap IntKind.i64 (v1 + (1 : Int))) else kexit0 v0
def law5_HostTells.R0 {R : Type} (kret : Int → Bool → Option R) (kexit0 : Int → Option R) : (Int × Int) → ((Int × Int) → Option R) → Option R := fun (v0, v1) next => law5_HostTells.round0 v0 v1 (fun w0 w1 => next (w0, w1)) kret kexit0
theorem law5_HostTells.R0_eq {R : Type} (kret : Int → Bool → Option R) (kexit0 : Int → Option R) (v0 : Int) (v1 : Int) (next : (Int × Int) → Option R) : law5_HostTells.R0 kret kexit0 (v0, v1) next = law5_HostTells.round0 v0 v1 (fun w0 w1 => next (w0, w1)) kret kexit0 := rfl
def law5_HostTells.loop0 {R : Type} (v0 : Int) (v1 : Int) (kret : Int → Bool → Option R) (kexit0 : Int → Option R) : Option R :=
  if -1 ≤ v1 ∧ v1 ≤ 34 then kexit0 v0 else none
theorem law5_HostTells.loop0_ok {R : Type} (v0 : Int) (v1 : Int) (kret : Int → Bool → Option R) (kexit0 : Int → Option R) (r : R) (h : law5_HostTells.loop0 v0 v1 kret kexit0 = some r) : ∃ n, lp (law5_HostTells.R0 kret kexit0) n (v0, v1) = some r := by
  unfold law5_HostTells.loop0 at h
  split at h <;> try (cases h; done)
  rename_i hc
  obtain ⟨h1, h2⟩ := hc
  rw [← h]
  refine lp_spec (round := law5_HostTells.R0 kret kexit0) (spec := fun (o, i) => kexit0 o) (inv := fun (o, i) => -1 ≤ i ∧ i ≤ 34) (μ := fun (o, i) => (34 - i).toNat) ?_ (v0, v1) ⟨h1, h2⟩
  rintro ⟨o, i⟩ ⟨k1, k2⟩ next hn
  rw [law5_HostTells.R0_eq, law5_HostTells.round0, same_all]
  by_cases hi : i ≤ 33
  · have e : IntKind.wrap .i64 (i + 1) = i + 1 := by rw [IntKind.wrap_i64]; omega
    rw [decide_eq_true hi, e]
    exact hn (o, i + 1) ⟨by omega, by omega⟩ (by simp only; omega)
  · rw [decide_eq_false hi]
    rfl
def law5_HostTells.C : Cfg := { rows := [], keep := [(0, [0, 3], []), (1000000, [0, 2], [])], adopt := [] }
def law5_HostTells.sum0 : FrV law5_HostTells.T0.fr × StV law5_HostTells.T0.st → (Ex → S → Option (List DVal)) → Option (List DVal) := fun ((v0, v1, ()), (())) K => law5_HostTells.loop0 v0 v1 (fun e0 e1 => K .ret (pack law5_HostTells.X0_ret ((e0, e1, ()), (())))) (fun e0 => K (.exit 0) (pack law5_HostTells.X0_exit0 ((e0, ()), (()))))
def law5_HostTells.rnd0 : FrV law5_HostTells.T0.fr × StV law5_HostTells.T0.st → (FrV law5_HostTells.T0.fr × StV law5_HostTells.T0.st → Option (List DVal)) → (Ex → S → Option (List DVal)) → Option (List DVal) := fun ((v0, v1, ()), (())) next K => law5_HostTells.round0 v0 v1 (fun w0 w1 => next ((w0, w1, ()), (()))) (fun e0 e1 => K .ret (pack law5_HostTells.X0_ret ((e0, e1, ()), (())))) (fun e0 => K (.exit 0) (pack law5_HostTells.X0_exit0 ((e0, ()), (()))))
def law5_HostTells.L : Nat → Option Sum := fun i => if i = 0 then some (sumOf law5_HostTells.T0 law5_HostTells.sum0) else none
theorem law5_HostTells.rnd0_eq : ∀ v (r : S → Option (List DVal)) (K : Ex → S → Option (List DVal)), exec Try.prog law5_HostTells.C law5_HostTells.env law5_HostTells.L 0 (loopOf Try.f3 0) (pack law5_HostTells.T0 v) (fun e s' => match e with | .normal => r (trim law5_HostTells.C 0 s') | e => K e (trim law5_HostTells.C (0 + 1000000) s')) = law5_HostTells.rnd0 v (fun v' => r (pack law5_HostTells.T0 v')) K :=
  fun ((v0, v1, ()), (())) r K => by kernel_rfl
theorem law5_HostTells.lp0 (K : Ex → S → Option (List DVal)) : ∀ (n : Nat) (v0 : Int) (v1 : Int), lp (fun v next => law5_HostTells.rnd0 v next K) n ((v0, v1, ()), (())) = lp (law5_HostTells.R0 (fun e0 e1 => K .ret (pack law5_HostTells.X0_ret ((e0, e1, ()), (())))) (fun e0 => K (.exit 0) (pack law5_HostTells.X0_exit0 ((e0, ()), (()))))) n (v0, v1) := by
  intro n
  induction n with
  | zero => intros; rfl
  | succ n ih =>
    intro v0 v1
    show law5_HostTells.round0 v0 v1 (fun w0 w1 => lp (fun v next => law5_HostTells.rnd0 v next K) n ((w0, w1, ()), (()))) (fun e0 e1 => K .ret (pack law5_HostTells.X0_ret ((e0, e1, ()), (())))) (fun e0 => K (.exit 0) (pack law5_HostTells.X0_exit0 ((e0, ()), (())))) = law5_HostTells.round0 v0 v1 (fun w0 w1 => lp (law5_HostTells.R0 (fun e0 e1 => K .ret (pack law5_HostTells.X0_ret ((e0, e1, ()), (())))) (fun e0 => K (.exit 0) (pack law5_HostTells.X0_exit0 ((e0, ()), (()))))) n (w0, w1)) (fun e0 e1 => K .ret (pack law5_HostTells.X0_ret ((e0, e1, ()), (())))) (fun e0 => K (.exit 0) (pack law5_HostTells.X0_exit0 ((e0, ()), (()))))
    simp only [ih]
theorem law5_HostTells.sum0_ok : SumOk Try.prog law5_HostTells.C law5_HostTells.env law5_HostTells.L 0 (loopOf Try.f3 0) := sumOk_lp (T := law5_HostTells.T0) (rnd := law5_HostTells.rnd0) (f := law5_HostTells.sum0) rfl law5_HostTells.rnd0_eq fun ((v0, v1, ()), (())) K r h => by
  obtain ⟨n, hn⟩ := law5_HostTells.loop0_ok v0 v1 (fun e0 e1 => K .ret (pack law5_HostTells.X0_ret ((e0, e1, ()), (())))) (fun e0 => K (.exit 0) (pack law5_HostTells.X0_exit0 ((e0, ()), (())))) r h
  exact ⟨n, by rw [law5_HostTells.lp0]; exact hn⟩
def law5_HostTells.tree {R : Type} (a0 : Int) (ret : Bool → Option R) : Option R :=
  law5_HostTells.loop0 a0 (-1 : Int) (fun e0 e1 => ret e1) fun e0 => ret (law5_same e0)
theorem law5_HostTells.eq (a0 : Int) : body Try.prog law5_HostTells.C law5_HostTells.env law5_HostTells.L Try.f3 [⟨Ty.int IntKind.i64, a0⟩] = law5_HostTells.tree a0 (fun r0 => some ([⟨Ty.bool, r0⟩] : List DVal)) := by kernel_rfl
def law5_HostTells (o : Int) : Bool := true
theorem law5_HostTells.nice {R : Type} (o : Int) (ret : Bool → Option R) : law5_HostTells.tree o ret = ret (law5_HostTells o) := by
  unfold law5_HostTells.tree law5_HostTells.loop0
  rw [if_pos ⟨by decide, by decide⟩]
  dsimp only
  rw [same_all]
  rfl

def law5_HostTells.ctr : Ctr := ctrOf [Ty.int IntKind.i64] fun x => .ret [⟨Ty.bool, law5_HostTells (x.1)⟩]
theorem law5_HostTells.known : Known Try.prog 3 law5_HostTells.ctr :=
  known_plain law5_HostTells.envOk mixed Try.func3 (by kernel_rfl) (by kernel_rfl) (byId (by kernel_rfl : loopIds Try.f3 = [0]) (by intro q hq; simp only [List.mem_cons, List.not_mem_nil, or_false] at hq; subst hq; first | exact law5_HostTells.sum0_ok)) (noSpots (by kernel_rfl)) fun x rs h => by
    obtain ⟨a0, u⟩ := x
    cases u
    simp only [Cmd.val_ret] at h
    exact (law5_HostTells.eq a0).trans ((law5_HostTells.nice a0 (fun r0 => some ([⟨Ty.bool, r0⟩] : List DVal))).trans h)
end
end Go.D.Ytbcjiicaekfjlaa
