import Derived.Test.YtmdnddoiopgboaaDoorChecked
import Derived.Test.YtmdnddoiopgboaaDoorDX
import Derived.KernelRfl
namespace Go.D.YtmdnddoiopgboaaDoor
open Go.Proofs
set_option linter.unusedVariables false
set_option linter.unusedSimpArgs false
set_option maxRecDepth 100000
noncomputable section
theorem mixed : Tryd.prog.follows .mixedOrders = true := by kernel_rfl
def noL : Nat → Option Sum := fun _ => none
/-- how many places a size means -/
def tszF : Nat → Int → Int
  | 0, _ => 4096
  | m + 1, n => bif decide (((4096 / 2 ^ (m + 1) : Nat) : Int) < n) then tszF m n else ((4096 / 2 ^ (m + 1) : Nat) : Int)
def tsz (n : Int) : Int := tszF 9 n
theorem tsz_lp {R : Type} {round : Int × Int → (Int × Int → Option R) → Option R} {K : Int → Option R} (h1 : ∀ n k next, k < n → k < 4096 → k < 100000 → 0 ≤ k → round (n, k) next = next (n, 2 * k)) (h2 : ∀ n k next, ¬ (k < n ∧ k < 4096) → round (n, k) next = K k) (n : Int) :
    ∀ m, m ≤ 9 → lp round (m + 1) (n, ((4096 / 2 ^ m : Nat) : Int)) = K (tszF m n) := by
  intro m
  induction m with
  | zero => intro _; exact h2 _ _ _ (by omega)
  | succ m ih =>
    intro hm
    have hk : ∀ m : Nat, m < 9 → 2 * (4096 / 2 ^ (m + 1)) = 4096 / 2 ^ m ∧ 4096 / 2 ^ (m + 1) < 4096 := by decide
    obtain ⟨k1, k2⟩ := hk m (by omega)
    rw [lp_succ, tszF]
    by_cases hc : ((4096 / 2 ^ (m + 1) : Nat) : Int) < n
    · rw [h1 _ _ _ hc (by omega) (by omega) (by omega), decide_eq_true hc, show (2 : Int) * ((4096 / 2 ^ (m + 1) : Nat) : Int) = ((4096 / 2 ^ m : Nat) : Int) by omega]
      exact ih (by omega)
    · rw [h2 _ _ _ (fun h => hc h.1), decide_eq_false hc]
      rfl

/-! ### ref23_Size -/
def ref23_Size.env : Env := envNil
theorem ref23_Size.envOk : EnvOk Tryd.prog ref23_Size.env := envOk_nil _
def ref23_Size.T2000002 : Tm := ⟨fill 0 14 [(0, Sl.data (Ty.int IntKind.i64)), (3, Sl.data (Ty.int IntKind.i64))], []⟩
def ref23_Size.X2000002_normal : Tm := ⟨fill 0 14 [(0, Sl.data (Ty.int IntKind.i64)), (3, Sl.data (Ty.int IntKind.i64)), (10, Sl.data Ty.bool)], []⟩
def ref23_Size.o2000002 {R : Type} (v0 : Int) (v1 : Int) (knormal : Int → Int → Bool → Option R) : Option R :=
  bif decide (v1 < v0) then knormal v0 v1 (decide (v1 < (4096 : Int))) else knormal v0 v1 false
def ref23_Size.s2000002 {R : Type} (v0 : Int) (v1 : Int) (knormal : Int → Int → Bool → Option R) : Option R :=
  knormal v0 v1 (decide (v1 < v0) && decide (v1 < (4096 : Int)))
theorem ref23_Size.s2000002_eq {R : Type} (v0 : Int) (v1 : Int) (knormal : Int → Int → Bool → Option R) : ref23_Size.s2000002 v0 v1 knormal = ref23_Size.o2000002 v0 v1 knormal := by
  unfold ref23_Size.s2000002 ref23_Size.o2000002
  (cases hc : decide (v1 < v0) with | false => (first | rfl | simp_all) | true => (first | rfl | simp_all))
def ref23_Size.T0 : Tm := ⟨fill 0 14 [(0, Sl.data (Ty.int IntKind.i64)), (3, Sl.data (Ty.int IntKind.i64))], []⟩
def ref23_Size.X0_exit0 : Tm := ⟨fill 0 14 [(3, Sl.data (Ty.int IntKind.i64))], []⟩
def ref23_Size.round0 {R : Type} (v0 : Int) (v1 : Int) (next : Int → Int → Option R) (kexit0 : Int → Option R) : Option R :=
  bif decide (v1 < v0) && decide (v1 < (4096 : Int)) then next v0 (IntKind.wrap IntKind.i64 ((2 : Int) * v1)) else kexit0 v1
def ref23_Size.R0 {R : Type} (kexit0 : Int → Option R) : (Int × Int) → ((Int × Int) → Option R) → Option R := fun (v0, v1) next => ref23_Size.round0 v0 v1 (fun w0 w1 => next (w0, w1)) kexit0
theorem ref23_Size.R0_eq {R : Type} (kexit0 : Int → Option R) (v0 : Int) (v1 : Int) (next : (Int × Int) → Option R) : ref23_Size.R0 kexit0 (v0, v1) next = ref23_Size.round0 v0 v1 (fun w0 w1 => next (w0, w1)) kexit0 := rfl
def ref23_Size.loop0 {R : Type} (v0 : Int) (v1 : Int) (kexit0 : Int → Option R) : Option R :=
  if v1 = 8 then kexit0 (tsz v0) else none
theorem ref23_Size.loop0_ok {R : Type} (v0 : Int) (v1 : Int) (kexit0 : Int → Option R) (r : R) (h : ref23_Size.loop0 v0 v1 kexit0 = some r) : ∃ n, lp (ref23_Size.R0 kexit0) n (v0, v1) = some r := by
  unfold ref23_Size.loop0 at h
  split at h <;> try (cases h; done)
  rename_i hc
  have hv : v1 = 8 := hc
  subst hv
  refine ⟨10, Eq.trans ?_ h⟩
  refine tsz_lp (K := kexit0) (fun n k next h1 h2 h3 h4 => ?_) (fun n k next h => ?_) v0 9 (by omega)
  · rw [ref23_Size.R0_eq, ref23_Size.round0, decide_eq_true h1, decide_eq_true h2, IntKind.wrap_i64]
    exact congrArg (fun x => next (n, x)) (by omega)
  · rw [ref23_Size.R0_eq, ref23_Size.round0, ← Bool.decide_and, decide_eq_false h]
    rfl
def ref23_Size.C : Cfg := { rows := [], keep := [(0, [0, 3], []), (1000000, [2, 3], []), (2000002, [0, 3], []), (12000002, [0, 3, 10], [])], adopt := [] }
def ref23_Size.sum2000002 : FrV ref23_Size.T2000002.fr × StV ref23_Size.T2000002.st → (Ex → S → Option (List DVal)) → Option (List DVal) := fun ((v0, v1, ()), (())) K => ref23_Size.s2000002 v0 v1 (fun e0 e1 e2 => K .normal (pack ref23_Size.X2000002_normal ((e0, e1, e2, ()), (()))))
def ref23_Size.sum0 : FrV ref23_Size.T0.fr × StV ref23_Size.T0.st → (Ex → S → Option (List DVal)) → Option (List DVal) := fun ((v0, v1, ()), (())) K => ref23_Size.loop0 v0 v1 (fun e0 => K (.exit 0) (pack ref23_Size.X0_exit0 ((e0, ()), (()))))
def ref23_Size.rnd0 : FrV ref23_Size.T0.fr × StV ref23_Size.T0.st → (FrV ref23_Size.T0.fr × StV ref23_Size.T0.st → Option (List DVal)) → (Ex → S → Option (List DVal)) → Option (List DVal) := fun ((v0, v1, ()), (())) next K => ref23_Size.round0 v0 v1 (fun w0 w1 => next ((w0, w1, ()), (()))) (fun e0 => K (.exit 0) (pack ref23_Size.X0_exit0 ((e0, ()), (()))))
def ref23_Size.L : Nat → Option Sum := fun i => if i = 0 then some (sumOf ref23_Size.T0 ref23_Size.sum0) else if i = 2000002 then some (sumOf ref23_Size.T2000002 ref23_Size.sum2000002) else none
theorem ref23_Size.rnd0_eq : ∀ v (r : S → Option (List DVal)) (K : Ex → S → Option (List DVal)), exec Tryd.prog ref23_Size.C ref23_Size.env ref23_Size.L 0 (loopOf Tryd.f23 0) (pack ref23_Size.T0 v) (fun e s' => match e with | .normal => r (trim ref23_Size.C 0 s') | e => K e (trim ref23_Size.C (0 + 1000000) s')) = ref23_Size.rnd0 v (fun v' => r (pack ref23_Size.T0 v')) K :=
  fun ((v0, v1, ()), (())) r K => by kernel_rfl
theorem ref23_Size.lp0 (K : Ex → S → Option (List DVal)) : ∀ (n : Nat) (v0 : Int) (v1 : Int), lp (fun v next => ref23_Size.rnd0 v next K) n ((v0, v1, ()), (())) = lp (ref23_Size.R0 (fun e0 => K (.exit 0) (pack ref23_Size.X0_exit0 ((e0, ()), (()))))) n (v0, v1) := by
  intro n
  induction n with
  | zero => intros; rfl
  | succ n ih =>
    intro v0 v1
    show ref23_Size.round0 v0 v1 (fun w0 w1 => lp (fun v next => ref23_Size.rnd0 v next K) n ((w0, w1, ()), (()))) (fun e0 => K (.exit 0) (pack ref23_Size.X0_exit0 ((e0, ()), (())))) = ref23_Size.round0 v0 v1 (fun w0 w1 => lp (ref23_Size.R0 (fun e0 => K (.exit 0) (pack ref23_Size.X0_exit0 ((e0, ()), (()))))) n (w0, w1)) (fun e0 => K (.exit 0) (pack ref23_Size.X0_exit0 ((e0, ()), (()))))
    simp only [ih]
theorem ref23_Size.sum0_ok : SumOk Tryd.prog ref23_Size.C ref23_Size.env ref23_Size.L 0 (loopOf Tryd.f23 0) := sumOk_lp (T := ref23_Size.T0) (rnd := ref23_Size.rnd0) (f := ref23_Size.sum0) rfl ref23_Size.rnd0_eq fun ((v0, v1, ()), (())) K r h => by
  obtain ⟨n, hn⟩ := ref23_Size.loop0_ok v0 v1 (fun e0 => K (.exit 0) (pack ref23_Size.X0_exit0 ((e0, ()), (())))) r h
  exact ⟨n, by rw [ref23_Size.lp0]; exact hn⟩
theorem ref23_Size.x2000002 : ∀ v (K : Ex → S → Option (List DVal)), exec1 Tryd.prog ref23_Size.C ref23_Size.env ref23_Size.L (spotOf Tryd.f23 2000002).2.1 (spotOf Tryd.f23 2000002).2.2 (pack ref23_Size.T2000002 v) (fun e s' => K e (trim ref23_Size.C (2000002 + 10000000) s')) = (fun (((v0, v1, ()), (())) : FrV ref23_Size.T2000002.fr × StV ref23_Size.T2000002.st) => ref23_Size.o2000002 v0 v1 (fun e0 e1 e2 => K .normal (pack ref23_Size.X2000002_normal ((e0, e1, e2, ()), (()))))) v :=
  fun ((v0, v1, ()), (())) K => by kernel_rfl
theorem ref23_Size.sum2000002_ok : SpotOk Tryd.prog ref23_Size.C ref23_Size.env ref23_Size.L (spotOf Tryd.f23 2000002) := spotOk_of (T := ref23_Size.T2000002) (q := 2000002) (f := ref23_Size.sum2000002) (by kernel_rfl) (by kernel_rfl) fun ((v0, v1, ()), (())) K r h => (ref23_Size.x2000002 _ K).trans ((ref23_Size.s2000002_eq v0 v1 (fun e0 e1 e2 => K .normal (pack ref23_Size.X2000002_normal ((e0, e1, e2, ()), (()))))).symm.trans h)
def ref23_Size.tree {R : Type} (a0 : Int) (ret : Int → Option R) : Option R :=
  ref23_Size.loop0 a0 (8 : Int) fun e0 => ret e0
theorem ref23_Size.eq (a0 : Int) : body Tryd.prog ref23_Size.C ref23_Size.env ref23_Size.L Tryd.f23 [⟨Ty.int IntKind.i64, a0⟩] = ref23_Size.tree a0 (fun r0 => some ([⟨Ty.int IntKind.i64, r0⟩] : List DVal)) := by kernel_rfl
def ref23_Size (n : Int) : Int := tsz n
theorem ref23_Size.nice {R : Type} (a0 : Int) (ret : Int → Option R) : ref23_Size.tree a0 ret = ret (ref23_Size a0) := rfl
def ref23_Size.ctr : Ctr := ctrOf [Ty.int IntKind.i64] fun x => .ret [⟨Ty.int IntKind.i64, ref23_Size (x.1)⟩]
theorem ref23_Size.known : Known Tryd.prog 23 ref23_Size.ctr :=
  known_plain ref23_Size.envOk mixed Tryd.func23 (by kernel_rfl) (by kernel_rfl) (byId (by kernel_rfl : loopIds Tryd.f23 = [0]) (by intro q hq; simp only [List.mem_cons, List.not_mem_nil, or_false] at hq; subst hq; first | exact ref23_Size.sum0_ok)) (bySpot (ids := [2000002]) (by kernel_rfl) (by intro q hq; simp only [List.mem_cons, List.not_mem_nil, or_false] at hq; subst hq; first | exact ref23_Size.sum2000002_ok)) fun x rs h => by
    obtain ⟨a0, u⟩ := x
    cases u
    simp only [Cmd.val_ret] at h
    exact (ref23_Size.eq a0).trans ((ref23_Size.nice a0 (fun r0 => some ([⟨Ty.int IntKind.i64, r0⟩] : List DVal))).trans h)

/-! ### table_width -/
def table_width.env : Env := envNil
theorem table_width.envOk : EnvOk Tryd.prog table_width.env := envOk_nil _
def table_width.T2000002 : Tm := ⟨fill 0 14 [(0, Sl.data (Ty.int IntKind.i64)), (3, Sl.data (Ty.int IntKind.i64))], []⟩
def table_width.X2000002_normal : Tm := ⟨fill 0 14 [(0, Sl.data (Ty.int IntKind.i64)), (3, Sl.data (Ty.int IntKind.i64)), (10, Sl.data Ty.bool)], []⟩
def table_width.o2000002 {R : Type} (v0 : Int) (v1 : Int) (knormal : Int → Int → Bool → Option R) : Option R :=
  bif decide (v1 < v0) then knormal v0 v1 (decide (v1 < (4096 : Int))) else knormal v0 v1 false
def table_width.s2000002 {R : Type} (v0 : Int) (v1 : Int) (knormal : Int → Int → Bool → Option R) : Option R :=
  knormal v0 v1 (decide (v1 < v0) && decide (v1 < (4096 : Int)))
theorem table_width.s2000002_eq {R : Type} (v0 : Int) (v1 : Int) (knormal : Int → Int → Bool → Option R) : table_width.s2000002 v0 v1 knormal = table_width.o2000002 v0 v1 knormal := by
  unfold table_width.s2000002 table_width.o2000002
  (cases hc : decide (v1 < v0) with | false => (first | rfl | simp_all) | true => (first | rfl | simp_all))
def table_width.T0 : Tm := ⟨fill 0 14 [(0, Sl.data (Ty.int IntKind.i64)), (3, Sl.data (Ty.int IntKind.i64))], []⟩
def table_width.X0_exit0 : Tm := ⟨fill 0 14 [(3, Sl.data (Ty.int IntKind.i64))], []⟩
def table_width.round0 {R : Type} (v0 : Int) (v1 : Int) (next : Int → Int → Option R) (kexit0 : Int → Option R) : Option R :=
  bif decide (v1 < v0) && decide (v1 < (4096 : Int)) then next v0 (IntKind.wrap IntKind.i64 (v1 * (2 : Int))) else kexit0 v1
def table_width.R0 {R : Type} (kexit0 : Int → Option R) : (Int × Int) → ((Int × Int) → Option R) → Option R := fun (v0, v1) next => table_width.round0 v0 v1 (fun w0 w1 => next (w0, w1)) kexit0
theorem table_width.R0_eq {R : Type} (kexit0 : Int → Option R) (v0 : Int) (v1 : Int) (next : (Int × Int) → Option R) : table_width.R0 kexit0 (v0, v1) next = table_width.round0 v0 v1 (fun w0 w1 => next (w0, w1)) kexit0 := rfl
def table_width.loop0 {R : Type} (v0 : Int) (v1 : Int) (kexit0 : Int → Option R) : Option R :=
  if v1 = 8 then kexit0 (tsz v0) else none
theorem table_width.loop0_ok {R : Type} (v0 : Int) (v1 : Int) (kexit0 : Int → Option R) (r : R) (h : table_width.loop0 v0 v1 kexit0 = some r) : ∃ n, lp (table_width.R0 kexit0) n (v0, v1) = some r := by
  unfold table_width.loop0 at h
  split at h <;> try (cases h; done)
  rename_i hc
  have hv : v1 = 8 := hc
  subst hv
  refine ⟨10, Eq.trans ?_ h⟩
  refine tsz_lp (K := kexit0) (fun n k next h1 h2 h3 h4 => ?_) (fun n k next h => ?_) v0 9 (by omega)
  · rw [table_width.R0_eq, table_width.round0, decide_eq_true h1, decide_eq_true h2, IntKind.wrap_i64]
    exact congrArg (fun x => next (n, x)) (by omega)
  · rw [table_width.R0_eq, table_width.round0, ← Bool.decide_and, decide_eq_false h]
    rfl
def table_width.C : Cfg := { rows := [], keep := [(0, [0, 3], []), (1000000, [2, 3], []), (2000002, [0, 3], []), (12000002, [0, 3, 10], [])], adopt := [] }
def table_width.sum2000002 : FrV table_width.T2000002.fr × StV table_width.T2000002.st → (Ex → S → Option (List DVal)) → Option (List DVal) := fun ((v0, v1, ()), (())) K => table_width.s2000002 v0 v1 (fun e0 e1 e2 => K .normal (pack table_width.X2000002_normal ((e0, e1, e2, ()), (()))))
def table_width.sum0 : FrV table_width.T0.fr × StV table_width.T0.st → (Ex → S → Option (List DVal)) → Option (List DVal) := fun ((v0, v1, ()), (())) K => table_width.loop0 v0 v1 (fun e0 => K (.exit 0) (pack table_width.X0_exit0 ((e0, ()), (()))))
def table_width.rnd0 : FrV table_width.T0.fr × StV table_width.T0.st → (FrV table_width.T0.fr × StV table_width.T0.st → Option (List DVal)) → (Ex → S → Option (List DVal)) → Option (List DVal) := fun ((v0, v1, ()), (())) next K => table_width.round0 v0 v1 (fun w0 w1 => next ((w0, w1, ()), (()))) (fun e0 => K (.exit 0) (pack table_width.X0_exit0 ((e0, ()), (()))))
def table_width.L : Nat → Option Sum := fun i => if i = 0 then some (sumOf table_width.T0 table_width.sum0) else if i = 2000002 then some (sumOf table_width.T2000002 table_width.sum2000002) else none
theorem table_width.rnd0_eq : ∀ v (r : S → Option (List DVal)) (K : Ex → S → Option (List DVal)), exec Tryd.prog table_width.C table_width.env table_width.L 0 (loopOf Tryd.f24 0) (pack table_width.T0 v) (fun e s' => match e with | .normal => r (trim table_width.C 0 s') | e => K e (trim table_width.C (0 + 1000000) s')) = table_width.rnd0 v (fun v' => r (pack table_width.T0 v')) K :=
  fun ((v0, v1, ()), (())) r K => by kernel_rfl
theorem table_width.lp0 (K : Ex → S → Option (List DVal)) : ∀ (n : Nat) (v0 : Int) (v1 : Int), lp (fun v next => table_width.rnd0 v next K) n ((v0, v1, ()), (())) = lp (table_width.R0 (fun e0 => K (.exit 0) (pack table_width.X0_exit0 ((e0, ()), (()))))) n (v0, v1) := by
  intro n
  induction n with
  | zero => intros; rfl
  | succ n ih =>
    intro v0 v1
    show table_width.round0 v0 v1 (fun w0 w1 => lp (fun v next => table_width.rnd0 v next K) n ((w0, w1, ()), (()))) (fun e0 => K (.exit 0) (pack table_width.X0_exit0 ((e0, ()), (())))) = table_width.round0 v0 v1 (fun w0 w1 => lp (table_width.R0 (fun e0 => K (.exit 0) (pack table_width.X0_exit0 ((e0, ()), (()))))) n (w0, w1)) (fun e0 => K (.exit 0) (pack table_width.X0_exit0 ((e0, ()), (()))))
    simp only [ih]
theorem table_width.sum0_ok : SumOk Tryd.prog table_width.C table_width.env table_width.L 0 (loopOf Tryd.f24 0) := sumOk_lp (T := table_width.T0) (rnd := table_width.rnd0) (f := table_width.sum0) rfl table_width.rnd0_eq fun ((v0, v1, ()), (())) K r h => by
  obtain ⟨n, hn⟩ := table_width.loop0_ok v0 v1 (fun e0 => K (.exit 0) (pack table_width.X0_exit0 ((e0, ()), (())))) r h
  exact ⟨n, by rw [table_width.lp0]; exact hn⟩
theorem table_width.x2000002 : ∀ v (K : Ex → S → Option (List DVal)), exec1 Tryd.prog table_width.C table_width.env table_width.L (spotOf Tryd.f24 2000002).2.1 (spotOf Tryd.f24 2000002).2.2 (pack table_width.T2000002 v) (fun e s' => K e (trim table_width.C (2000002 + 10000000) s')) = (fun (((v0, v1, ()), (())) : FrV table_width.T2000002.fr × StV table_width.T2000002.st) => table_width.o2000002 v0 v1 (fun e0 e1 e2 => K .normal (pack table_width.X2000002_normal ((e0, e1, e2, ()), (()))))) v :=
  fun ((v0, v1, ()), (())) K => by kernel_rfl
theorem table_width.sum2000002_ok : SpotOk Tryd.prog table_width.C table_width.env table_width.L (spotOf Tryd.f24 2000002) := spotOk_of (T := table_width.T2000002) (q := 2000002) (f := table_width.sum2000002) (by kernel_rfl) (by kernel_rfl) fun ((v0, v1, ()), (())) K r h => (table_width.x2000002 _ K).trans ((table_width.s2000002_eq v0 v1 (fun e0 e1 e2 => K .normal (pack table_width.X2000002_normal ((e0, e1, e2, ()), (()))))).symm.trans h)
def table_width.tree {R : Type} (a0 : Int) (ret : Int → Option R) : Option R :=
  table_width.loop0 a0 (8 : Int) fun e0 => ret e0
theorem table_width.eq (a0 : Int) : body Tryd.prog table_width.C table_width.env table_width.L Tryd.f24 [⟨Ty.int IntKind.i64, a0⟩] = table_width.tree a0 (fun r0 => some ([⟨Ty.int IntKind.i64, r0⟩] : List DVal)) := by kernel_rfl
def table_width (n : Int) : Int := tsz n
theorem table_width.nice {R : Type} (a0 : Int) (ret : Int → Option R) : table_width.tree a0 ret = ret (table_width a0) := rfl
def table_width.ctr : Ctr := ctrOf [Ty.int IntKind.i64] fun x => .ret [⟨Ty.int IntKind.i64, table_width (x.1)⟩]
theorem table_width.known : Known Tryd.prog 24 table_width.ctr :=
  known_plain table_width.envOk mixed Tryd.func24 (by kernel_rfl) (by kernel_rfl) (byId (by kernel_rfl : loopIds Tryd.f24 = [0]) (by intro q hq; simp only [List.mem_cons, List.not_mem_nil, or_false] at hq; subst hq; first | exact table_width.sum0_ok)) (bySpot (ids := [2000002]) (by kernel_rfl) (by intro q hq; simp only [List.mem_cons, List.not_mem_nil, or_false] at hq; subst hq; first | exact table_width.sum2000002_ok)) fun x rs h => by
    obtain ⟨a0, u⟩ := x
    cases u
    simp only [Cmd.val_ret] at h
    exact (table_width.eq a0).trans ((table_width.nice a0 (fun r0 => some ([⟨Ty.int IntKind.i64, r0⟩] : List DVal))).trans h)

/-! ### bits_tz32 -/
def bits_tz32 : Int := 0
def bits_tz32.ctr : Ctr := ctrOf [.int .u32] fun _ => .fail
theorem bits_tz32.known : Known Tryd.prog 28 bits_tz32.ctr :=
  known_plain (C := {}) (L := noL) (envOk_nil _) mixed Tryd.func28 (by kernel_rfl) (by kernel_rfl) (noLoops (by kernel_rfl)) (noSpots (by kernel_rfl)) fun x rs h => by cases h

/-! ### bits_tz64 -/
/-- only of what sizes may be -/
def bits_tz64.pre (a : Int) : Bool := [(8 : Int), 16, 32, 64, 128, 256, 512, 1024, 2048, 4096].contains a
def bits_tz64 (a : Int) : Int := ((Nat.log2 a.toNat : Nat) : Int)
def bits_tz64.ctr : Ctr := ctrOf [.int .u64] fun x => .guard (bits_tz64.pre x.1) (.ret [⟨.int .i64, bits_tz64 x.1⟩])
theorem bits_tz64.known : Known Tryd.prog 29 bits_tz64.ctr :=
  known_plain (C := {}) (L := noL) (envOk_nil _) mixed Tryd.func29 (by kernel_rfl) (by kernel_rfl) (noLoops (by kernel_rfl)) (noSpots (by kernel_rfl)) fun x rs h => by
    obtain ⟨a0, u⟩ := x
    cases u
    simp only [Cmd.val_guard, Cmd.val_ret] at h
    split at h <;> try (cases h; done)
    rename_i hp
    have hp : a0 ∈ [(8 : Int), 16, 32, 64, 128, 256, 512, 1024, 2048, 4096] := List.contains_iff_mem.1 hp
    cases h
    simp only [List.mem_cons, List.not_mem_nil, or_false] at hp
    rcases hp with rfl | rfl | rfl | rfl | rfl | rfl | rfl | rfl | rfl | rfl <;> (show _ = _; kernel_rfl)

/-! ### bits_tz -/
def bits_tz.env : Env := envCons 28 bits_tz32.ctr <| envCons 29 bits_tz64.ctr <| envNil
theorem bits_tz.envOk : EnvOk Tryd.prog bits_tz.env := envOk_cons bits_tz32.known (envOk_cons bits_tz64.known (envOk_nil _))
def bits_tz.C : Cfg := { rows := [], keep := [], adopt := [] }
def bits_tz.tree {R : Type} (a0 : Int) (ret : Int → Option R) : Option R :=
  bif bits_tz64.pre a0 then ret (bits_tz64 a0) else none
theorem bits_tz.eq (a0 : Int) : body Tryd.prog bits_tz.C bits_tz.env noL Tryd.f27 [⟨Ty.int IntKind.u64, a0⟩] = bits_tz.tree a0 (fun r0 => some ([⟨Ty.int IntKind.i64, r0⟩] : List DVal)) := by kernel_rfl
def bits_tz.opt (a0 : Int) : Option (Int) := bits_tz.tree a0 (fun r0 => some (r0))
theorem bits_tz.nat {R : Type} (a0 : Int) (ret : Int → Option R) : bits_tz.tree a0 ret = (bits_tz.opt a0).bind (fun x => ret x) := by
  unfold bits_tz.opt bits_tz.tree
  repeat (first | with_reducible exact nat_none _ | with_reducible refine nat_cond ?_ ?_ | with_reducible refine nat_ite ?_ ?_ | (with_reducible refine nat_leaf ?_; rfl))
def bits_tz.pre (a0 : Int) : Bool := (bits_tz.opt a0).isSome
def bits_tz (a0 : Int) : Int := (bits_tz.opt a0).getD default
theorem bits_tz.of_opt (a0 : Int) {x : Int} (h : bits_tz.opt a0 = some x) : bits_tz.pre a0 = true ∧ bits_tz a0 = x := by
  unfold bits_tz.pre bits_tz
  rw [h]
  exact ⟨rfl, rfl⟩
theorem bits_tz.nice {R : Type} (a0 : Int) (hp : bits_tz.pre a0 = true) (ret : Int → Option R) : bits_tz.tree a0 ret = ret (bits_tz a0) := by
  rw [bits_tz.nat]
  cases h : bits_tz.opt a0 with
  | none => rw [bits_tz.pre, h] at hp; cases hp
  | some x => rw [(bits_tz.of_opt a0 h).2]; rfl
def bits_tz.ctr : Ctr := ctrOf [Ty.int IntKind.u64] fun x => .guard (bits_tz.pre (x.1)) (.ret [⟨Ty.int IntKind.i64, bits_tz (x.1)⟩])
theorem bits_tz.known : Known Tryd.prog 27 bits_tz.ctr :=
  known_plain bits_tz.envOk mixed Tryd.func27 (by kernel_rfl) (by kernel_rfl) (noLoops (by kernel_rfl)) (noSpots (by kernel_rfl)) fun x rs h => by
    obtain ⟨a0, u⟩ := x
    cases u
    simp only [Cmd.val_guard, Cmd.val_ret] at h
    split at h <;> try (cases h; done)
    rename_i hp
    exact (bits_tz.eq a0).trans ((bits_tz.nice a0 hp (fun r0 => some ([⟨Ty.int IntKind.i64, r0⟩] : List DVal))).trans h)

/-! ### table_Home -/
def table_Home.env : Env := envCons 24 table_width.ctr <| envCons 27 bits_tz.ctr <| envNil
theorem table_Home.envOk : EnvOk Tryd.prog table_Home.env := envOk_cons table_width.known (envOk_cons bits_tz.known (envOk_nil _))
def table_Home.C : Cfg := { rows := [], keep := [], adopt := [] }
def table_Home.tree {R : Type} (a0 : Int) (a1 : Int) (ret : Int → Option R) : Option R :=
  bif bits_tz.pre (IntKind.wrap IntKind.u64 (table_width a1)) then bif decide ((0 : Int) ≤ IntKind.wrap IntKind.i64 ((32 : Int) - bits_tz (IntKind.wrap IntKind.u64 (table_width a1)))) then ret (IntKind.wrap IntKind.i64 (shr IntKind.u32 (IntKind.wrap IntKind.u32 (a0 * (2654435761 : Int))) (IntKind.wrap IntKind.i64 ((32 : Int) - bits_tz (IntKind.wrap IntKind.u64 (table_width a1)))))) else none else none
theorem table_Home.eq (a0 : Int) (a1 : Int) : body Tryd.prog table_Home.C table_Home.env noL Tryd.f21 [⟨Ty.int IntKind.u32, a0⟩, ⟨Ty.int IntKind.i64, a1⟩] = table_Home.tree a0 a1 (fun r0 => some ([⟨Ty.int IntKind.i64, r0⟩] : List DVal)) := by kernel_rfl
def table_Home.opt (a0 : Int) (a1 : Int) : Option (Int) := table_Home.tree a0 a1 (fun r0 => some (r0))
theorem table_Home.nat {R : Type} (a0 : Int) (a1 : Int) (ret : Int → Option R) : table_Home.tree a0 a1 ret = (table_Home.opt a0 a1).bind (fun x => ret x) := by
  unfold table_Home.opt table_Home.tree
  repeat (first | with_reducible exact nat_none _ | with_reducible refine nat_cond ?_ ?_ | with_reducible refine nat_ite ?_ ?_ | (with_reducible refine nat_leaf ?_; rfl))
def table_Home.pre (a0 : Int) (a1 : Int) : Bool := (table_Home.opt a0 a1).isSome
def table_Home (a0 : Int) (a1 : Int) : Int := (table_Home.opt a0 a1).getD default
theorem table_Home.of_opt (a0 : Int) (a1 : Int) {x : Int} (h : table_Home.opt a0 a1 = some x) : table_Home.pre a0 a1 = true ∧ table_Home a0 a1 = x := by
  unfold table_Home.pre table_Home
  rw [h]
  exact ⟨rfl, rfl⟩
theorem table_Home.nice {R : Type} (a0 : Int) (a1 : Int) (hp : table_Home.pre a0 a1 = true) (ret : Int → Option R) : table_Home.tree a0 a1 ret = ret (table_Home a0 a1) := by
  rw [table_Home.nat]
  cases h : table_Home.opt a0 a1 with
  | none => rw [table_Home.pre, h] at hp; cases hp
  | some x => rw [(table_Home.of_opt a0 a1 h).2]; rfl
def table_Home.ctr : Ctr := ctrOf [Ty.int IntKind.u32, Ty.int IntKind.i64] fun x => .guard (table_Home.pre (x.1) (x.2.1)) (.ret [⟨Ty.int IntKind.i64, table_Home (x.1) (x.2.1)⟩])
theorem table_Home.known : Known Tryd.prog 21 table_Home.ctr :=
  known_plain table_Home.envOk mixed Tryd.func21 (by kernel_rfl) (by kernel_rfl) (noLoops (by kernel_rfl)) (noSpots (by kernel_rfl)) fun x rs h => by
    obtain ⟨a0, a1, u⟩ := x
    cases u
    simp only [Cmd.val_guard, Cmd.val_ret] at h
    split at h <;> try (cases h; done)
    rename_i hp
    exact (table_Home.eq a0 a1).trans ((table_Home.nice a0 a1 hp (fun r0 => some ([⟨Ty.int IntKind.i64, r0⟩] : List DVal))).trans h)

/-! ### ref23_Home -/
def ref23_Home.env : Env := envCons 23 ref23_Size.ctr <| envNil
theorem ref23_Home.envOk : EnvOk Tryd.prog ref23_Home.env := envOk_cons ref23_Size.known (envOk_nil _)
theorem tszF_mem (n : Int) : ∀ m, m ≤ 9 → ∃ j : Nat, 3 ≤ j ∧ j ≤ 12 ∧ tszF m n = ((2 ^ j : Nat) : Int) := by
  intro m
  induction m with
  | zero => intro _; exact ⟨12, by omega, by omega, rfl⟩
  | succ m ih =>
    intro hm
    rw [tszF]
    cases decide (((4096 / 2 ^ (m + 1) : Nat) : Int) < n)
    · have hk : ∀ m : Nat, m < 9 → 4096 / 2 ^ (m + 1) = 2 ^ (11 - m) := by decide
      exact ⟨11 - m, by omega, by omega, by rw [hk m (by omega)]; rfl⟩
    · exact ih (by omega)
theorem tsz_mem (n : Int) : tsz n = 8 ∨ tsz n = 16 ∨ tsz n = 32 ∨ tsz n = 64 ∨ tsz n = 128 ∨ tsz n = 256 ∨ tsz n = 512 ∨ tsz n = 1024 ∨ tsz n = 2048 ∨ tsz n = 4096 := by
  obtain ⟨j, h1, h2, h3⟩ := tszF_mem n 9 (by omega)
  rw [show tsz n = tszF 9 n from rfl, h3]
  have : j = 3 ∨ j = 4 ∨ j = 5 ∨ j = 6 ∨ j = 7 ∨ j = 8 ∨ j = 9 ∨ j = 10 ∨ j = 11 ∨ j = 12 := by omega
  rcases this with rfl | rfl | rfl | rfl | rfl | rfl | rfl | rfl | rfl | rfl <;> decide
def ref23_Home.T0 : Tm := ⟨fill 0 20 [(0, Sl.data (Ty.int IntKind.u32)), (1, Sl.data (Ty.int IntKind.i64)), (5, Sl.data (Ty.int IntKind.i64))], []⟩
def ref23_Home.X0_exit0 : Tm := ⟨fill 0 20 [(0, Sl.data (Ty.int IntKind.u32)), (5, Sl.data (Ty.int IntKind.i64))], []⟩
def ref23_Home.round0 {R : Type} (v0 : Int) (v1 : Int) (v2 : Int) (next : Int → Int → Int → Option R) (kexit0 : Int → Int → Option R) : Option R :=
  bif decide ((0 : Int) ≤ v2) then bif decide (shl IntKind.i64 (1 : Int) v2 < ref23_Size v1) then next v0 v1 (IntKind.wrap IntKind.i64 (v2 + (1 : Int))) else kexit0 v0 v2 else none
def ref23_Home.R0 {R : Type} (kexit0 : Int → Int → Option R) : (Int × Int × Int) → ((Int × Int × Int) → Option R) → Option R := fun (v0, v1, v2) next => ref23_Home.round0 v0 v1 v2 (fun w0 w1 w2 => next (w0, w1, w2)) kexit0
theorem ref23_Home.R0_eq {R : Type} (kexit0 : Int → Int → Option R) (v0 : Int) (v1 : Int) (v2 : Int) (next : (Int × Int × Int) → Option R) : ref23_Home.R0 kexit0 (v0, v1, v2) next = ref23_Home.round0 v0 v1 v2 (fun w0 w1 w2 => next (w0, w1, w2)) kexit0 := rfl
def ref23_Home.Q {R : Type} (kexit0 : Int → Int → Option R) (s : Int) : (Int × Int × Int) → ((Int × Int × Int) → Option R) → Option R := fun (v0, v1, v2) next =>
  bif decide ((0 : Int) ≤ v2) then bif decide (shl IntKind.i64 (1 : Int) v2 < s) then next (v0, v1, IntKind.wrap IntKind.i64 (v2 + (1 : Int))) else kexit0 v0 v2 else none
theorem ref23_Home.lpQ {R : Type} (kexit0 : Int → Int → Option R) (k n : Int) : ∀ (m : Nat) (b : Int), lp (ref23_Home.R0 kexit0) m (k, n, b) = lp (ref23_Home.Q kexit0 (tsz n)) m (k, n, b) := by
  intro m
  induction m with
  | zero => intro b; rfl
  | succ m ih =>
    intro b
    rw [lp_succ, lp_succ, ref23_Home.R0_eq, ref23_Home.round0]
    simp only [ih]
    rfl
def lgz (s : Int) : Int := ((Nat.log2 s.toNat : Nat) : Int)
def ref23_Home.loop0 {R : Type} (v0 : Int) (v1 : Int) (v2 : Int) (kexit0 : Int → Int → Option R) : Option R :=
  if v2 = 0 then kexit0 v0 (lgz (tsz v1)) else none
theorem ref23_Home.loop0_ok {R : Type} (v0 : Int) (v1 : Int) (v2 : Int) (kexit0 : Int → Int → Option R) (r : R) (h : ref23_Home.loop0 v0 v1 v2 kexit0 = some r) : ∃ n, lp (ref23_Home.R0 kexit0) n (v0, v1, v2) = some r := by
  unfold ref23_Home.loop0 at h
  split at h <;> try (cases h; done)
  rename_i hc
  have hv : v2 = 0 := hc
  subst hv
  refine ⟨13, Eq.trans ?_ h⟩
  rw [ref23_Home.lpQ]
  rcases tsz_mem v1 with e | e | e | e | e | e | e | e | e | e <;> rw [e] <;> (show _ = _; kernel_rfl)
def ref23_Home.C : Cfg := { rows := [], keep := [(0, [0, 1, 5], []), (1000000, [0, 4, 5], [])], adopt := [] }
def ref23_Home.sum0 : FrV ref23_Home.T0.fr × StV ref23_Home.T0.st → (Ex → S → Option (List DVal)) → Option (List DVal) := fun ((v0, v1, v2, ()), (())) K => ref23_Home.loop0 v0 v1 v2 (fun e0 e1 => K (.exit 0) (pack ref23_Home.X0_exit0 ((e0, e1, ()), (()))))
def ref23_Home.rnd0 : FrV ref23_Home.T0.fr × StV ref23_Home.T0.st → (FrV ref23_Home.T0.fr × StV ref23_Home.T0.st → Option (List DVal)) → (Ex → S → Option (List DVal)) → Option (List DVal) := fun ((v0, v1, v2, ()), (())) next K => ref23_Home.round0 v0 v1 v2 (fun w0 w1 w2 => next ((w0, w1, w2, ()), (()))) (fun e0 e1 => K (.exit 0) (pack ref23_Home.X0_exit0 ((e0, e1, ()), (()))))
def ref23_Home.L : Nat → Option Sum := fun i => if i = 0 then some (sumOf ref23_Home.T0 ref23_Home.sum0) else none
theorem ref23_Home.rnd0_eq : ∀ v (r : S → Option (List DVal)) (K : Ex → S → Option (List DVal)), exec Tryd.prog ref23_Home.C ref23_Home.env ref23_Home.L 0 (loopOf Tryd.f22 0) (pack ref23_Home.T0 v) (fun e s' => match e with | .normal => r (trim ref23_Home.C 0 s') | e => K e (trim ref23_Home.C (0 + 1000000) s')) = ref23_Home.rnd0 v (fun v' => r (pack ref23_Home.T0 v')) K :=
  fun ((v0, v1, v2, ()), (())) r K => by kernel_rfl
theorem ref23_Home.lp0 (K : Ex → S → Option (List DVal)) : ∀ (n : Nat) (v0 : Int) (v1 : Int) (v2 : Int), lp (fun v next => ref23_Home.rnd0 v next K) n ((v0, v1, v2, ()), (())) = lp (ref23_Home.R0 (fun e0 e1 => K (.exit 0) (pack ref23_Home.X0_exit0 ((e0, e1, ()), (()))))) n (v0, v1, v2) := by
  intro n
  induction n with
  | zero => intros; rfl
  | succ n ih =>
    intro v0 v1 v2
    show ref23_Home.round0 v0 v1 v2 (fun w0 w1 w2 => lp (fun v next => ref23_Home.rnd0 v next K) n ((w0, w1, w2, ()), (()))) (fun e0 e1 => K (.exit 0) (pack ref23_Home.X0_exit0 ((e0, e1, ()), (())))) = ref23_Home.round0 v0 v1 v2 (fun w0 w1 w2 => lp (ref23_Home.R0 (fun e0 e1 => K (.exit 0) (pack ref23_Home.X0_exit0 ((e0, e1, ()), (()))))) n (w0, w1, w2)) (fun e0 e1 => K (.exit 0) (pack ref23_Home.X0_exit0 ((e0, e1, ()), (()))))
    simp only [ih]
theorem ref23_Home.sum0_ok : SumOk Tryd.prog ref23_Home.C ref23_Home.env ref23_Home.L 0 (loopOf Tryd.f22 0) := sumOk_lp (T := ref23_Home.T0) (rnd := ref23_Home.rnd0) (f := ref23_Home.sum0) rfl ref23_Home.rnd0_eq fun ((v0, v1, v2, ()), (())) K r h => by
  obtain ⟨n, hn⟩ := ref23_Home.loop0_ok v0 v1 v2 (fun e0 e1 => K (.exit 0) (pack ref23_Home.X0_exit0 ((e0, e1, ()), (())))) r h
  exact ⟨n, by rw [ref23_Home.lp0]; exact hn⟩
def ref23_Home.tree {R : Type} (a0 : Int) (a1 : Int) (ret : Int → Option R) : Option R :=
  ref23_Home.loop0 a0 a1 (0 : Int) fun e0 e1 => bif decide ((0 : Int) ≤ IntKind.wrap IntKind.i64 ((32 : Int) - e1)) then ret (IntKind.wrap IntKind.i64 (shr IntKind.u64 (IntKind.wrap IntKind.u64 (IntKind.wrap IntKind.u32 (e0 * (2654435761 : Int)))) (IntKind.wrap IntKind.i64 ((32 : Int) - e1)))) else none
theorem ref23_Home.eq (a0 : Int) (a1 : Int) : body Tryd.prog ref23_Home.C ref23_Home.env ref23_Home.L Tryd.f22 [⟨Ty.int IntKind.u32, a0⟩, ⟨Ty.int IntKind.i64, a1⟩] = ref23_Home.tree a0 a1 (fun r0 => some ([⟨Ty.int IntKind.i64, r0⟩] : List DVal)) := by kernel_rfl
def ref23_Home.opt (a0 : Int) (a1 : Int) : Option (Int) := ref23_Home.tree a0 a1 (fun r0 => some (r0))
theorem ref23_Home.nat {R : Type} (a0 : Int) (a1 : Int) (ret : Int → Option R) : ref23_Home.tree a0 a1 ret = (ref23_Home.opt a0 a1).bind (fun x => ret x) := by
  unfold ref23_Home.opt ref23_Home.tree ref23_Home.loop0
  repeat (first | with_reducible exact nat_none _ | with_reducible refine nat_cond ?_ ?_ | with_reducible refine nat_ite ?_ ?_ | (with_reducible refine nat_leaf ?_; rfl))
def ref23_Home.pre (a0 : Int) (a1 : Int) : Bool := (ref23_Home.opt a0 a1).isSome
def ref23_Home (a0 : Int) (a1 : Int) : Int := (ref23_Home.opt a0 a1).getD default
theorem ref23_Home.of_opt (a0 : Int) (a1 : Int) {x : Int} (h : ref23_Home.opt a0 a1 = some x) : ref23_Home.pre a0 a1 = true ∧ ref23_Home a0 a1 = x := by
  unfold ref23_Home.pre ref23_Home
  rw [h]
  exact ⟨rfl, rfl⟩
theorem ref23_Home.nice {R : Type} (a0 : Int) (a1 : Int) (hp : ref23_Home.pre a0 a1 = true) (ret : Int → Option R) : ref23_Home.tree a0 a1 ret = ret (ref23_Home a0 a1) := by
  rw [ref23_Home.nat]
  cases h : ref23_Home.opt a0 a1 with
  | none => rw [ref23_Home.pre, h] at hp; cases hp
  | some x => rw [(ref23_Home.of_opt a0 a1 h).2]; rfl
def ref23_Home.ctr : Ctr := ctrOf [Ty.int IntKind.u32, Ty.int IntKind.i64] fun x => .guard (ref23_Home.pre (x.1) (x.2.1)) (.ret [⟨Ty.int IntKind.i64, ref23_Home (x.1) (x.2.1)⟩])
theorem ref23_Home.known : Known Tryd.prog 22 ref23_Home.ctr :=
  known_plain ref23_Home.envOk mixed Tryd.func22 (by kernel_rfl) (by kernel_rfl) (byId (by kernel_rfl : loopIds Tryd.f22 = [0]) (by intro q hq; simp only [List.mem_cons, List.not_mem_nil, or_false] at hq; subst hq; first | exact ref23_Home.sum0_ok)) (noSpots (by kernel_rfl)) fun x rs h => by
    obtain ⟨a0, a1, u⟩ := x
    cases u
    simp only [Cmd.val_guard, Cmd.val_ret] at h
    split at h <;> try (cases h; done)
    rename_i hp
    exact (ref23_Home.eq a0 a1).trans ((ref23_Home.nice a0 a1 hp (fun r0 => some ([⟨Ty.int IntKind.i64, r0⟩] : List DVal))).trans h)
end
end Go.D.YtmdnddoiopgboaaDoor
