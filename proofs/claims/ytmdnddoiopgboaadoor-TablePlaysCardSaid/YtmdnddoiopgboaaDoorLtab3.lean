import Derived.Test.YtmdnddoiopgboaaDoorChecked
import Derived.Test.YtmdnddoiopgboaaDoorDX
import Derived.KernelRfl
import Derived.Test.YtmdnddoiopgboaaDoorLtab1
import Derived.Test.YtmdnddoiopgboaaDoorLtab2
namespace Go.D.YtmdnddoiopgboaaDoor
open Go.Proofs
set_option linter.unusedVariables false
set_option linter.unusedSimpArgs false
set_option maxRecDepth 100000
noncomputable section


/-! ### table_Places -/
def table_Places.env : Env := envNil
theorem table_Places.envOk : EnvOk Tryd.prog table_Places.env := envOk_nil _
def table_Places.T3000007 : Tm := ⟨fill 0 34 [(3, Sl.ref (11 : Nat)), (4, Sl.data (Ty.int IntKind.i64)), (5, Sl.ptr (5 : Nat) (nilOf Step)), (15, Sl.data (Ty.sl Te)), (16, Sl.data (Ty.int IntKind.i64)), (17, Sl.data (Ty.int IntKind.i64)), (26, Sl.data Ty.bool)], [{ k := (11 : Nat), t := Toi, vir := true }, { k := (5 : Nat), t := Te, vir := false }]⟩
def table_Places.X3000007_normal : Tm := ⟨fill 0 34 [(3, Sl.ref (11 : Nat)), (15, Sl.data (Ty.sl Te)), (16, Sl.data (Ty.int IntKind.i64)), (17, Sl.data (Ty.int IntKind.i64))], [{ k := (11 : Nat), t := Toi, vir := true }]⟩
def table_Places.o3000007 {R : Type} (v0 : Int) (v1 : List (Int × Int × Bool × Unit)) (v2 : Int) (v3 : Int) (v4 : Bool) (v5 : List Int) (v6 : Int × Int × Bool × Unit) (knormal : (List (Int × Int × Bool × Unit)) → Int → Int → (List Int) → Option R) : Option R :=
  bif v4 then bif decide ((0 : Int) ≤ v0) && decide (v0 < (↑(List.length v5) : Int)) then bif decide ((0 : Nat) ≤ Int.toNat v0) then knormal v1 v2 v3 (List.set v5 (Int.toNat v0) (Prod.fst (Prod.snd v6))) else none else none else knormal v1 v2 v3 v5
def table_Places.s3000007 {R : Type} (v0 : Int) (v1 : List (Int × Int × Bool × Unit)) (v2 : Int) (v3 : Int) (v4 : Bool) (v5 : List Int) (v6 : Int × Int × Bool × Unit) (knormal : (List (Int × Int × Bool × Unit)) → Int → Int → (List Int) → Option R) : Option R :=
  bif !v4 || decide ((0 : Int) ≤ v0) && decide (v0 < (↑(List.length v5) : Int)) && decide ((0 : Nat) ≤ Int.toNat v0) then knormal v1 v2 v3 (bif v4 then List.set v5 (Int.toNat v0) (Prod.fst (Prod.snd v6)) else v5) else none
theorem table_Places.s3000007_eq {R : Type} (v0 : Int) (v1 : List (Int × Int × Bool × Unit)) (v2 : Int) (v3 : Int) (v4 : Bool) (v5 : List Int) (v6 : Int × Int × Bool × Unit) (knormal : (List (Int × Int × Bool × Unit)) → Int → Int → (List Int) → Option R) : table_Places.s3000007 v0 v1 v2 v3 v4 v5 v6 knormal = table_Places.o3000007 v0 v1 v2 v3 v4 v5 v6 knormal := by
  unfold table_Places.s3000007 table_Places.o3000007
  (cases hc : v4 with | false => (first | rfl | simp_all) | true => (cases hc : decide ((0 : Int) ≤ v0) && decide (v0 < (↑(List.length v5) : Int)) with | false => (first | rfl | simp_all) | true => (cases hc : decide ((0 : Nat) ≤ Int.toNat v0) with | false => (first | rfl | simp_all) | true => (first | rfl | simp_all))))
def table_Places.T0 : Tm := ⟨fill 0 34 [(3, Sl.ref (11 : Nat)), (15, Sl.data (Ty.sl Te)), (16, Sl.data (Ty.int IntKind.i64)), (17, Sl.data (Ty.int IntKind.i64))], [{ k := (11 : Nat), t := Toi, vir := true }]⟩
def table_Places.X0_exit0 : Tm := ⟨fill 0 34 [(3, Sl.ref (11 : Nat))], [{ k := (11 : Nat), t := Toi, vir := true }]⟩
def table_Places.round0 {R : Type} (v0 : List (Int × Int × Bool × Unit)) (v1 : Int) (v2 : Int) (v3 : List Int) (next : (List (Int × Int × Bool × Unit)) → Int → Int → (List Int) → Option R) (kexit0 : (List Int) → Option R) : Option R :=
  bif decide (v2 < v1) then bif decide ((0 : Int) ≤ v2) && decide (v2 < (↑(List.length v0) : Int)) then bif decide ((0 : Int) ≤ v2) && decide (v2 < (↑(List.length v3) : Int)) then bif decide ((0 : Nat) ≤ Int.toNat v2) then bif !Prod.fst (Prod.snd (Prod.snd (List.getD v0 (Int.toNat v2) (Ty.dflt Te)))) || decide ((0 : Int) ≤ v2) && decide (v2 < (↑(List.length (List.set v3 (Int.toNat v2) (-1 : Int))) : Int)) && decide ((0 : Nat) ≤ Int.toNat v2) then next v0 v1 (IntKind.wrap IntKind.i64 (v2 + (1 : Int))) (bif Prod.fst (Prod.snd (Prod.snd (List.getD v0 (Int.toNat v2) (Ty.dflt Te)))) then List.set (List.set v3 (Int.toNat v2) (-1 : Int)) (Int.toNat v2) (Prod.fst (Prod.snd (List.getD v0 (Int.toNat v2) (Ty.dflt Te)))) else List.set v3 (Int.toNat v2) (-1 : Int)) else none else none else none else none else kexit0 v3
def table_Places.R0 {R : Type} (kexit0 : (List Int) → Option R) : ((List (Int × Int × Bool × Unit)) × Int × Int × (List Int)) → (((List (Int × Int × Bool × Unit)) × Int × Int × (List Int)) → Option R) → Option R := fun (v0, v1, v2, v3) next => table_Places.round0 v0 v1 v2 v3 (fun w0 w1 w2 w3 => next (w0, w1, w2, w3)) kexit0
theorem table_Places.R0_eq {R : Type} (kexit0 : (List Int) → Option R) (v0 : List (Int × Int × Bool × Unit)) (v1 : Int) (v2 : Int) (v3 : List Int) (next : ((List (Int × Int × Bool × Unit)) × Int × Int × (List Int)) → Option R) : table_Places.R0 kexit0 (v0, v1, v2, v3) next = table_Places.round0 v0 v1 v2 v3 (fun w0 w1 w2 w3 => next (w0, w1, w2, w3)) kexit0 := rfl
def table_Places.loop0 {R : Type} (v0 : List (Int × Int × Bool × Unit)) (v1 : Int) (v2 : Int) (v3 : List Int) (kexit0 : (List Int) → Option R) : Option R := lp (table_Places.R0 kexit0) 5000 (v0, v1, v2, v3)
theorem table_Places.loop0_ok {R : Type} (v0 : List (Int × Int × Bool × Unit)) (v1 : Int) (v2 : Int) (v3 : List Int) (kexit0 : (List Int) → Option R) (r : R) (h : table_Places.loop0 v0 v1 v2 v3 kexit0 = some r) : ∃ n, lp (table_Places.R0 kexit0) n (v0, v1, v2, v3) = some r := ⟨5000, h⟩
theorem table_Places.loop0_nat {A B : Type} (v0 : List (Int × Int × Bool × Unit)) (v1 : Int) (v2 : Int) (v3 : List Int) (kexit0 : (List Int) → Option A) (kexit0' : (List Int) → Option B) (f : A → Option B) (hexit0 : ∀ e0, kexit0' e0 = (kexit0 e0).bind f) : table_Places.loop0 v0 v1 v2 v3 kexit0' = (table_Places.loop0 v0 v1 v2 v3 kexit0).bind f := by
  unfold table_Places.loop0
  refine nat_lp ?_ _ _
  intro v next next' hn
  obtain ⟨v0, v1, v2, v3⟩ := v
  rw [table_Places.R0_eq, table_Places.R0_eq]
  unfold table_Places.round0
  repeat (first | unfold table_Places.s3000007)
  repeat (first | with_reducible exact nat_none _ | with_reducible exact hn _ | with_reducible exact hexit0 _ | with_reducible refine nat_cond ?_ ?_ | with_reducible refine nat_ite ?_ ?_)
def table_Places.C : Cfg := { rows := [11], keep := [(0, [3, 15, 16, 17], [11]), (1000000, [2, 3], [11]), (3000007, [3, 4, 5, 15, 16, 17, 26], [11, 5]), (13000007, [3, 15, 16, 17], [11])], adopt := [], ownR := true }
def table_Places.sum3000007 : FrV table_Places.T3000007.fr × StV table_Places.T3000007.st → (Ex → S → Option (List DVal)) → Option (List DVal) := fun ((v0, v1, v2, v3, v4, ()), (v5, v6, ())) K => table_Places.s3000007 v0 v1 v2 v3 v4 v5 v6 (fun e0 e1 e2 e3 => K .normal (pack table_Places.X3000007_normal ((e0, e1, e2, ()), (e3, ()))))
def table_Places.sum0 : FrV table_Places.T0.fr × StV table_Places.T0.st → (Ex → S → Option (List DVal)) → Option (List DVal) := fun ((v0, v1, v2, ()), (v3, ())) K => table_Places.loop0 v0 v1 v2 v3 (fun e0 => K (.exit 0) (pack table_Places.X0_exit0 ((()), (e0, ()))))
def table_Places.rnd0 : FrV table_Places.T0.fr × StV table_Places.T0.st → (FrV table_Places.T0.fr × StV table_Places.T0.st → Option (List DVal)) → (Ex → S → Option (List DVal)) → Option (List DVal) := fun ((v0, v1, v2, ()), (v3, ())) next K => table_Places.round0 v0 v1 v2 v3 (fun w0 w1 w2 w3 => next ((w0, w1, w2, ()), (w3, ()))) (fun e0 => K (.exit 0) (pack table_Places.X0_exit0 ((()), (e0, ()))))
def table_Places.L : Nat → Option Sum := fun i => if i = 0 then some (sumOf table_Places.T0 table_Places.sum0) else if i = 3000007 then some (sumOf table_Places.T3000007 table_Places.sum3000007) else none
theorem table_Places.rnd0_eq : ∀ v (r : S → Option (List DVal)) (K : Ex → S → Option (List DVal)), exec Tryd.prog table_Places.C table_Places.env table_Places.L 0 (loopOf Tryd.f19 0) (pack table_Places.T0 v) (fun e s' => match e with | .normal => r (trim table_Places.C 0 s') | e => K e (trim table_Places.C (0 + 1000000) s')) = table_Places.rnd0 v (fun v' => r (pack table_Places.T0 v')) K :=
  fun ((v0, v1, v2, ()), (v3, ())) r K => by kernel_rfl
theorem table_Places.lp0 (K : Ex → S → Option (List DVal)) : ∀ (n : Nat) (v0 : List (Int × Int × Bool × Unit)) (v1 : Int) (v2 : Int) (v3 : List Int), lp (fun v next => table_Places.rnd0 v next K) n ((v0, v1, v2, ()), (v3, ())) = lp (table_Places.R0 (fun e0 => K (.exit 0) (pack table_Places.X0_exit0 ((()), (e0, ()))))) n (v0, v1, v2, v3) := by
  intro n
  induction n with
  | zero => intros; rfl
  | succ n ih =>
    intro v0 v1 v2 v3
    show table_Places.round0 v0 v1 v2 v3 (fun w0 w1 w2 w3 => lp (fun v next => table_Places.rnd0 v next K) n ((w0, w1, w2, ()), (w3, ()))) (fun e0 => K (.exit 0) (pack table_Places.X0_exit0 ((()), (e0, ())))) = table_Places.round0 v0 v1 v2 v3 (fun w0 w1 w2 w3 => lp (table_Places.R0 (fun e0 => K (.exit 0) (pack table_Places.X0_exit0 ((()), (e0, ()))))) n (w0, w1, w2, w3)) (fun e0 => K (.exit 0) (pack table_Places.X0_exit0 ((()), (e0, ()))))
    simp only [ih]
theorem table_Places.sum0_ok : SumOk Tryd.prog table_Places.C table_Places.env table_Places.L 0 (loopOf Tryd.f19 0) := sumOk_lp (T := table_Places.T0) (rnd := table_Places.rnd0) (f := table_Places.sum0) rfl table_Places.rnd0_eq fun ((v0, v1, v2, ()), (v3, ())) K r h => by
  obtain ⟨n, hn⟩ := table_Places.loop0_ok v0 v1 v2 v3 (fun e0 => K (.exit 0) (pack table_Places.X0_exit0 ((()), (e0, ())))) r h
  exact ⟨n, by rw [table_Places.lp0]; exact hn⟩
theorem table_Places.x3000007 : ∀ v (K : Ex → S → Option (List DVal)), exec1 Tryd.prog table_Places.C table_Places.env table_Places.L (spotOf Tryd.f19 3000007).2.1 (spotOf Tryd.f19 3000007).2.2 (pack table_Places.T3000007 v) (fun e s' => K e (trim table_Places.C (3000007 + 10000000) s')) = (fun (((v0, v1, v2, v3, v4, ()), (v5, v6, ())) : FrV table_Places.T3000007.fr × StV table_Places.T3000007.st) => table_Places.o3000007 v0 v1 v2 v3 v4 v5 v6 (fun e0 e1 e2 e3 => K .normal (pack table_Places.X3000007_normal ((e0, e1, e2, ()), (e3, ()))))) v :=
  fun ((v0, v1, v2, v3, v4, ()), (v5, v6, ())) K => by kernel_rfl
theorem table_Places.sum3000007_ok : SpotOk Tryd.prog table_Places.C table_Places.env table_Places.L (spotOf Tryd.f19 3000007) := spotOk_of (T := table_Places.T3000007) (q := 3000007) (f := table_Places.sum3000007) (by kernel_rfl) (by kernel_rfl) fun ((v0, v1, v2, v3, v4, ()), (v5, v6, ())) K r h => (table_Places.x3000007 _ K).trans ((table_Places.s3000007_eq v0 v1 v2 v3 v4 v5 v6 (fun e0 e1 e2 e3 => K .normal (pack table_Places.X3000007_normal ((e0, e1, e2, ()), (e3, ()))))).symm.trans h)
def table_Places.tree {R : Type} (a0 : List (Int × Int × Bool × Unit) × Int × Unit) (ret : (List Int) → Option R) : Option R :=
  bif decide ((0 : Int) ≤ (↑(List.length (Prod.fst a0)) : Int)) && decide ((↑(List.length (Prod.fst a0)) : Int) ≤ (↑(List.length (Prod.fst a0)) : Int)) && decide ((↑(List.length (Prod.fst a0)) : Int) ≤ (9223372036854775807 : Int)) && decide (↑(List.length (Prod.fst a0)) * (8 : Int) ≤ (140737488355328 : Int)) then table_Places.loop0 (Prod.fst a0) ↑(List.length (Prod.fst a0)) (0 : Int) (List.replicate (Int.toNat ↑(List.length (Prod.fst a0))) (0 : Int)) fun e0 => ret e0 else none
theorem table_Places.eq (a0 : List (Int × Int × Bool × Unit) × Int × Unit) : body Tryd.prog table_Places.C table_Places.env table_Places.L Tryd.f19 [⟨Ty.pt (Ty.pair (Ty.sl Te) (Ty.pair (Ty.int IntKind.i64) Ty.unit)), a0⟩] = table_Places.tree a0 (fun r0 => some ([⟨Toi, r0⟩] : List DVal)) := by kernel_rfl
def table_Places.opt (a0 : List (Int × Int × Bool × Unit) × Int × Unit) : Option ((List Int)) := table_Places.tree a0 (fun r0 => some (r0))
theorem table_Places.nat {R : Type} (a0 : List (Int × Int × Bool × Unit) × Int × Unit) (ret : (List Int) → Option R) : table_Places.tree a0 ret = (table_Places.opt a0).bind (fun x => ret x) := by
  unfold table_Places.opt table_Places.tree
  repeat (first | unfold table_Places.s3000007)
  repeat (first | with_reducible exact nat_none _ | with_reducible refine nat_cond ?_ ?_ | with_reducible refine nat_ite ?_ ?_ | (with_reducible refine table_Places.loop0_nat _ _ _ _ _ _ _ ?_ <;> intros) | (with_reducible refine nat_leaf ?_; rfl))
def table_Places.pre (a0 : List (Int × Int × Bool × Unit) × Int × Unit) : Bool := (table_Places.opt a0).isSome
def table_Places (a0 : List (Int × Int × Bool × Unit) × Int × Unit) : (List Int) := (table_Places.opt a0).getD default
theorem table_Places.of_opt (a0 : List (Int × Int × Bool × Unit) × Int × Unit) {x : (List Int)} (h : table_Places.opt a0 = some x) : table_Places.pre a0 = true ∧ table_Places a0 = x := by
  unfold table_Places.pre table_Places
  rw [h]
  exact ⟨rfl, rfl⟩
theorem table_Places.nice {R : Type} (a0 : List (Int × Int × Bool × Unit) × Int × Unit) (hp : table_Places.pre a0 = true) (ret : (List Int) → Option R) : table_Places.tree a0 ret = ret (table_Places a0) := by
  rw [table_Places.nat]
  cases h : table_Places.opt a0 with
  | none => rw [table_Places.pre, h] at hp; cases hp
  | some x => rw [(table_Places.of_opt a0 h).2]; rfl
def table_Places.ctr : Ctr := ctrOf [Ty.pt (Ty.pair (Ty.sl Te) (Ty.pair (Ty.int IntKind.i64) Ty.unit))] fun x => .guard (table_Places.pre (x.1)) (.ret [⟨Toi, table_Places (x.1)⟩])
theorem table_Places.known : Known Tryd.prog 19 table_Places.ctr :=
  known_plain table_Places.envOk mixed Tryd.func19 (by kernel_rfl) (by kernel_rfl) (byId (by kernel_rfl : loopIds Tryd.f19 = [0]) (by intro q hq; simp only [List.mem_cons, List.not_mem_nil, or_false] at hq; subst hq; first | exact table_Places.sum0_ok)) (bySpot (ids := [3000007]) (by kernel_rfl) (by intro q hq; simp only [List.mem_cons, List.not_mem_nil, or_false] at hq; subst hq; first | exact table_Places.sum3000007_ok)) fun x rs h => by
    obtain ⟨a0, u⟩ := x
    cases u
    simp only [Cmd.val_guard, Cmd.val_ret] at h
    split at h <;> try (cases h; done)
    rename_i hp
    exact (table_Places.eq a0).trans ((table_Places.nice a0 hp (fun r0 => some ([⟨Toi, r0⟩] : List DVal))).trans h)

/-! ### ref23_Del -/
def ref23_Del.env : Env := envCons 26 ref23_find.ctr <| envNil
theorem ref23_Del.envOk : EnvOk Tryd.prog ref23_Del.env := envOk_cons ref23_find.known (envOk_nil _)
def ref23_Del.T0 : Tm := ⟨fill 0 93 [(0, Sl.ref (4000000 : Nat)), (6, Sl.data (Ty.int IntKind.i64))], [{ k := (4000000 : Nat), t := Ty.box Tb23, vir := true }]⟩
def ref23_Del.X0_exit0 : Tm := ⟨fill 0 93 [(0, Sl.ref (4000000 : Nat))], [{ k := (4000000 : Nat), t := Ty.box Tb23, vir := true }]⟩
def ref23_Del.round0 {R : Type} (v0 : Int) (v1 : List Bool × List Int × List Int × Unit) (next : Int → (List Bool × List Int × List Int × Unit) → Option R) (kexit0 : (List Bool × List Int × List Int × Unit) → Option R) : Option R :=
  bif decide ((0 : Int) ≤ v0) && decide (v0 < (↑(List.length (Prod.fst v1)) : Int)) then bif List.getD (Prod.fst v1) (Int.toNat v0) false then bif decide ((0 : Int) ≤ v0) && decide (v0 < (↑(List.length (Prod.fst v1)) : Int)) then bif decide ((0 : Int) ≤ v0) && decide (v0 < (↑(List.length (Prod.fst (Prod.snd v1))) : Int)) then bif decide ((0 : Int) ≤ v0) && decide (v0 < (↑(List.length (Prod.fst (Prod.snd (Prod.snd v1)))) : Int)) then bif ref23_find.pre (List.set (Prod.fst v1) (Int.toNat v0) false, Prod.fst (Prod.snd v1), Prod.fst (Prod.snd (Prod.snd v1)), Prod.snd (Prod.snd (Prod.snd v1))) (List.getD (Prod.fst (Prod.snd v1)) (Int.toNat v0) (0 : Int)) then bif decide ((0 : Int) ≤ ref23_find (List.set (Prod.fst v1) (Int.toNat v0) false, Prod.fst (Prod.snd v1), Prod.fst (Prod.snd (Prod.snd v1)), Prod.snd (Prod.snd (Prod.snd v1))) (List.getD (Prod.fst (Prod.snd v1)) (Int.toNat v0) (0 : Int))) && decide (ref23_find (List.set (Prod.fst v1) (Int.toNat v0) false, Prod.fst (Prod.snd v1), Prod.fst (Prod.snd (Prod.snd v1)), Prod.snd (Prod.snd (Prod.snd v1))) (List.getD (Prod.fst (Prod.snd v1)) (Int.toNat v0) (0 : Int)) < (↑(List.length (List.set (Prod.fst v1) (Int.toNat v0) false)) : Int)) then bif decide ((0 : Int) ≤ ref23_find (List.set (Prod.fst v1) (Int.toNat v0) false, Prod.fst (Prod.snd v1), Prod.fst (Prod.snd (Prod.snd v1)), Prod.snd (Prod.snd (Prod.snd v1))) (List.getD (Prod.fst (Prod.snd v1)) (Int.toNat v0) (0 : Int))) && decide (ref23_find (List.set (Prod.fst v1) (Int.toNat v0) false, Prod.fst (Prod.snd v1), Prod.fst (Prod.snd (Prod.snd v1)), Prod.snd (Prod.snd (Prod.snd v1))) (List.getD (Prod.fst (Prod.snd v1)) (Int.toNat v0) (0 : Int)) < (↑(List.length (Prod.fst (Prod.snd v1))) : Int)) then bif decide ((0 : Int) ≤ ref23_find (List.set (Prod.fst v1) (Int.toNat v0) false, Prod.fst (Prod.snd v1), Prod.fst (Prod.snd (Prod.snd v1)), Prod.snd (Prod.snd (Prod.snd v1))) (List.getD (Prod.fst (Prod.snd v1)) (Int.toNat v0) (0 : Int))) && decide (ref23_find (List.set (Prod.fst v1) (Int.toNat v0) false, Prod.fst (Prod.snd v1), Prod.fst (Prod.snd (Prod.snd v1)), Prod.snd (Prod.snd (Prod.snd v1))) (List.getD (Prod.fst (Prod.snd v1)) (Int.toNat v0) (0 : Int)) < (↑(List.length (Prod.fst (Prod.snd (Prod.snd v1)))) : Int)) then bif (↑(List.length (List.set (Prod.fst (Prod.snd (Prod.snd v1))) (Int.toNat (ref23_find (List.set (Prod.fst v1) (Int.toNat v0) false, Prod.fst (Prod.snd v1), Prod.fst (Prod.snd (Prod.snd v1)), Prod.snd (Prod.snd (Prod.snd v1))) (List.getD (Prod.fst (Prod.snd v1)) (Int.toNat v0) (0 : Int)))) (List.getD (Prod.fst (Prod.snd (Prod.snd v1))) (Int.toNat v0) (0 : Int)))) : Int) != (0 : Int) then next (Int.tmod (IntKind.wrap IntKind.i64 (v0 + (1 : Int))) ↑(List.length (List.set (Prod.fst (Prod.snd (Prod.snd v1))) (Int.toNat (ref23_find (List.set (Prod.fst v1) (Int.toNat v0) false, Prod.fst (Prod.snd v1), Prod.fst (Prod.snd (Prod.snd v1)), Prod.snd (Prod.snd (Prod.snd v1))) (List.getD (Prod.fst (Prod.snd v1)) (Int.toNat v0) (0 : Int)))) (List.getD (Prod.fst (Prod.snd (Prod.snd v1))) (Int.toNat v0) (0 : Int))))) (List.set (List.set (Prod.fst v1) (Int.toNat v0) false) (Int.toNat (ref23_find (List.set (Prod.fst v1) (Int.toNat v0) false, Prod.fst (Prod.snd v1), Prod.fst (Prod.snd (Prod.snd v1)), Prod.snd (Prod.snd (Prod.snd v1))) (List.getD (Prod.fst (Prod.snd v1)) (Int.toNat v0) (0 : Int)))) true, List.set (Prod.fst (Prod.snd v1)) (Int.toNat (ref23_find (List.set (Prod.fst v1) (Int.toNat v0) false, Prod.fst (Prod.snd v1), Prod.fst (Prod.snd (Prod.snd v1)), Prod.snd (Prod.snd (Prod.snd v1))) (List.getD (Prod.fst (Prod.snd v1)) (Int.toNat v0) (0 : Int)))) (List.getD (Prod.fst (Prod.snd v1)) (Int.toNat v0) (0 : Int)), List.set (Prod.fst (Prod.snd (Prod.snd v1))) (Int.toNat (ref23_find (List.set (Prod.fst v1) (Int.toNat v0) false, Prod.fst (Prod.snd v1), Prod.fst (Prod.snd (Prod.snd v1)), Prod.snd (Prod.snd (Prod.snd v1))) (List.getD (Prod.fst (Prod.snd v1)) (Int.toNat v0) (0 : Int)))) (List.getD (Prod.fst (Prod.snd (Prod.snd v1))) (Int.toNat v0) (0 : Int)), ()) else none else none else none else none else none else none else none else none else kexit0 v1 else none
def ref23_Del.R0 {R : Type} (kexit0 : (List Bool × List Int × List Int × Unit) → Option R) : (Int × (List Bool × List Int × List Int × Unit)) → ((Int × (List Bool × List Int × List Int × Unit)) → Option R) → Option R := fun (v0, v1) next => ref23_Del.round0 v0 v1 (fun w0 w1 => next (w0, w1)) kexit0
theorem ref23_Del.R0_eq {R : Type} (kexit0 : (List Bool × List Int × List Int × Unit) → Option R) (v0 : Int) (v1 : List Bool × List Int × List Int × Unit) (next : (Int × (List Bool × List Int × List Int × Unit)) → Option R) : ref23_Del.R0 kexit0 (v0, v1) next = ref23_Del.round0 v0 v1 (fun w0 w1 => next (w0, w1)) kexit0 := rfl
def ref23_Del.loop0 {R : Type} (v0 : Int) (v1 : List Bool × List Int × List Int × Unit) (kexit0 : (List Bool × List Int × List Int × Unit) → Option R) : Option R := lp (ref23_Del.R0 kexit0) 5000 (v0, v1)
theorem ref23_Del.loop0_ok {R : Type} (v0 : Int) (v1 : List Bool × List Int × List Int × Unit) (kexit0 : (List Bool × List Int × List Int × Unit) → Option R) (r : R) (h : ref23_Del.loop0 v0 v1 kexit0 = some r) : ∃ n, lp (ref23_Del.R0 kexit0) n (v0, v1) = some r := ⟨5000, h⟩
theorem ref23_Del.loop0_nat {A B : Type} (v0 : Int) (v1 : List Bool × List Int × List Int × Unit) (kexit0 : (List Bool × List Int × List Int × Unit) → Option A) (kexit0' : (List Bool × List Int × List Int × Unit) → Option B) (f : A → Option B) (hexit0 : ∀ e0, kexit0' e0 = (kexit0 e0).bind f) : ref23_Del.loop0 v0 v1 kexit0' = (ref23_Del.loop0 v0 v1 kexit0).bind f := by
  unfold ref23_Del.loop0
  refine nat_lp ?_ _ _
  intro v next next' hn
  obtain ⟨v0, v1⟩ := v
  rw [ref23_Del.R0_eq, ref23_Del.R0_eq]
  unfold ref23_Del.round0
  repeat (first | with_reducible exact nat_none _ | with_reducible exact hn _ | with_reducible exact hexit0 _ | with_reducible refine nat_cond ?_ ?_ | with_reducible refine nat_ite ?_ ?_)
def ref23_Del.C : Cfg := { rows := [], keep := [(0, [0, 6], [4000000]), (1000000, [0, 4], [4000000])], adopt := [] }
def ref23_Del.sum0 : FrV ref23_Del.T0.fr × StV ref23_Del.T0.st → (Ex → S → Option (List DVal)) → Option (List DVal) := fun ((v0, ()), (v1, ())) K => ref23_Del.loop0 v0 v1 (fun e0 => K (.exit 0) (pack ref23_Del.X0_exit0 ((()), (e0, ()))))
def ref23_Del.rnd0 : FrV ref23_Del.T0.fr × StV ref23_Del.T0.st → (FrV ref23_Del.T0.fr × StV ref23_Del.T0.st → Option (List DVal)) → (Ex → S → Option (List DVal)) → Option (List DVal) := fun ((v0, ()), (v1, ())) next K => ref23_Del.round0 v0 v1 (fun w0 w1 => next ((w0, ()), (w1, ()))) (fun e0 => K (.exit 0) (pack ref23_Del.X0_exit0 ((()), (e0, ()))))
def ref23_Del.L : Nat → Option Sum := fun i => if i = 0 then some (sumOf ref23_Del.T0 ref23_Del.sum0) else none
theorem ref23_Del.rnd0_eq : ∀ v (r : S → Option (List DVal)) (K : Ex → S → Option (List DVal)), exec Tryd.prog ref23_Del.C ref23_Del.env ref23_Del.L 0 (loopOf Tryd.f13 0) (pack ref23_Del.T0 v) (fun e s' => match e with | .normal => r (trim ref23_Del.C 0 s') | e => K e (trim ref23_Del.C (0 + 1000000) s')) = ref23_Del.rnd0 v (fun v' => r (pack ref23_Del.T0 v')) K :=
  fun ((v0, ()), (v1, ())) r K => by kernel_rfl
theorem ref23_Del.lp0 (K : Ex → S → Option (List DVal)) : ∀ (n : Nat) (v0 : Int) (v1 : List Bool × List Int × List Int × Unit), lp (fun v next => ref23_Del.rnd0 v next K) n ((v0, ()), (v1, ())) = lp (ref23_Del.R0 (fun e0 => K (.exit 0) (pack ref23_Del.X0_exit0 ((()), (e0, ()))))) n (v0, v1) := by
  intro n
  induction n with
  | zero => intros; rfl
  | succ n ih =>
    intro v0 v1
    show ref23_Del.round0 v0 v1 (fun w0 w1 => lp (fun v next => ref23_Del.rnd0 v next K) n ((w0, ()), (w1, ()))) (fun e0 => K (.exit 0) (pack ref23_Del.X0_exit0 ((()), (e0, ())))) = ref23_Del.round0 v0 v1 (fun w0 w1 => lp (ref23_Del.R0 (fun e0 => K (.exit 0) (pack ref23_Del.X0_exit0 ((()), (e0, ()))))) n (w0, w1)) (fun e0 => K (.exit 0) (pack ref23_Del.X0_exit0 ((()), (e0, ()))))
    simp only [ih]
theorem ref23_Del.sum0_ok : SumOk Tryd.prog ref23_Del.C ref23_Del.env ref23_Del.L 0 (loopOf Tryd.f13 0) := sumOk_lp (T := ref23_Del.T0) (rnd := ref23_Del.rnd0) (f := ref23_Del.sum0) rfl ref23_Del.rnd0_eq fun ((v0, ()), (v1, ())) K r h => by
  obtain ⟨n, hn⟩ := ref23_Del.loop0_ok v0 v1 (fun e0 => K (.exit 0) (pack ref23_Del.X0_exit0 ((()), (e0, ())))) r h
  exact ⟨n, by rw [ref23_Del.lp0]; exact hn⟩
def ref23_Del.tree {R : Type} (a0 : List Bool × List Int × List Int × Unit) (a1 : Int) (ret : (List Bool × List Int × List Int × Unit) → Bool → Option R) : Option R :=
  bif ref23_find.pre (Prod.fst a0, Prod.fst (Prod.snd a0), Prod.fst (Prod.snd (Prod.snd a0)), Prod.snd (Prod.snd (Prod.snd a0))) a1 then bif decide ((0 : Int) ≤ ref23_find (Prod.fst a0, Prod.fst (Prod.snd a0), Prod.fst (Prod.snd (Prod.snd a0)), Prod.snd (Prod.snd (Prod.snd a0))) a1) && decide (ref23_find (Prod.fst a0, Prod.fst (Prod.snd a0), Prod.fst (Prod.snd (Prod.snd a0)), Prod.snd (Prod.snd (Prod.snd a0))) a1 < (↑(List.length (Prod.fst a0)) : Int)) then bif !List.getD (Prod.fst a0) (Int.toNat (ref23_find (Prod.fst a0, Prod.fst (Prod.snd a0), Prod.fst (Prod.snd (Prod.snd a0)), Prod.snd (Prod.snd (Prod.snd a0))) a1)) false then ret a0 false else bif decide ((0 : Int) ≤ ref23_find (Prod.fst a0, Prod.fst (Prod.snd a0), Prod.fst (Prod.snd (Prod.snd a0)), Prod.snd (Prod.snd (Prod.snd a0))) a1) && decide (ref23_find (Prod.fst a0, Prod.fst (Prod.snd a0), Prod.fst (Prod.snd (Prod.snd a0)), Prod.snd (Prod.snd (Prod.snd a0))) a1 < (↑(List.length (Prod.fst a0)) : Int)) then bif (↑(List.length (Prod.fst (Prod.snd (Prod.snd a0)))) : Int) != (0 : Int) then ref23_Del.loop0 (Int.tmod (IntKind.wrap IntKind.i64 (ref23_find (Prod.fst a0, Prod.fst (Prod.snd a0), Prod.fst (Prod.snd (Prod.snd a0)), Prod.snd (Prod.snd (Prod.snd a0))) a1 + (1 : Int))) ↑(List.length (Prod.fst (Prod.snd (Prod.snd a0))))) (List.set (Prod.fst a0) (Int.toNat (ref23_find (Prod.fst a0, Prod.fst (Prod.snd a0), Prod.fst (Prod.snd (Prod.snd a0)), Prod.snd (Prod.snd (Prod.snd a0))) a1)) false, Prod.snd a0) fun e0 => ret e0 true else none else none else none else none
theorem ref23_Del.eq (a0 : List Bool × List Int × List Int × Unit) (a1 : Int) : body Tryd.prog ref23_Del.C ref23_Del.env ref23_Del.L Tryd.f13 [⟨Ty.box Tb23, a0⟩, ⟨Ty.int IntKind.u32, a1⟩] = ref23_Del.tree a0 a1 (fun r0 r1 => some ([⟨Ty.box Tb23, r0⟩, ⟨Ty.bool, r1⟩] : List DVal)) := by kernel_rfl
def ref23_Del.opt (a0 : List Bool × List Int × List Int × Unit) (a1 : Int) : Option ((List Bool × List Int × List Int × Unit) × Bool) := ref23_Del.tree a0 a1 (fun r0 r1 => some (r0, r1))
theorem ref23_Del.nat {R : Type} (a0 : List Bool × List Int × List Int × Unit) (a1 : Int) (ret : (List Bool × List Int × List Int × Unit) → Bool → Option R) : ref23_Del.tree a0 a1 ret = (ref23_Del.opt a0 a1).bind (fun x => ret x.1 x.2) := by
  unfold ref23_Del.opt ref23_Del.tree
  repeat (first | with_reducible exact nat_none _ | with_reducible refine nat_cond ?_ ?_ | with_reducible refine nat_ite ?_ ?_ | (with_reducible refine ref23_Del.loop0_nat _ _ _ _ _ ?_ <;> intros) | (with_reducible refine nat_leaf ?_; rfl))
def ref23_Del.pre (a0 : List Bool × List Int × List Int × Unit) (a1 : Int) : Bool := (ref23_Del.opt a0 a1).isSome
def ref23_Del (a0 : List Bool × List Int × List Int × Unit) (a1 : Int) : (List Bool × List Int × List Int × Unit) × Bool := (ref23_Del.opt a0 a1).getD default
theorem ref23_Del.of_opt (a0 : List Bool × List Int × List Int × Unit) (a1 : Int) {x : (List Bool × List Int × List Int × Unit) × Bool} (h : ref23_Del.opt a0 a1 = some x) : ref23_Del.pre a0 a1 = true ∧ ref23_Del a0 a1 = x := by
  unfold ref23_Del.pre ref23_Del
  rw [h]
  exact ⟨rfl, rfl⟩
theorem ref23_Del.nice {R : Type} (a0 : List Bool × List Int × List Int × Unit) (a1 : Int) (hp : ref23_Del.pre a0 a1 = true) (ret : (List Bool × List Int × List Int × Unit) → Bool → Option R) : ref23_Del.tree a0 a1 ret = ret (ref23_Del a0 a1).1 (ref23_Del a0 a1).2 := by
  rw [ref23_Del.nat]
  cases h : ref23_Del.opt a0 a1 with
  | none => rw [ref23_Del.pre, h] at hp; cases hp
  | some x => rw [(ref23_Del.of_opt a0 a1 h).2]; rfl
def ref23_Del.ctr : Ctr := ctrOf [Ty.box Tb23, Ty.int IntKind.u32] fun x => .guard (ref23_Del.pre (x.1) (x.2.1)) (.ret [⟨Ty.box Tb23, (ref23_Del (x.1) (x.2.1)).1⟩, ⟨Ty.bool, (ref23_Del (x.1) (x.2.1)).2⟩])
theorem ref23_Del.known : Known Tryd.prog 13 ref23_Del.ctr :=
  known_plain ref23_Del.envOk mixed Tryd.func13 (by kernel_rfl) (by kernel_rfl) (byId (by kernel_rfl : loopIds Tryd.f13 = [0]) (by intro q hq; simp only [List.mem_cons, List.not_mem_nil, or_false] at hq; subst hq; first | exact ref23_Del.sum0_ok)) (noSpots (by kernel_rfl)) fun x rs h => by
    obtain ⟨a0, a1, u⟩ := x
    cases u
    simp only [Cmd.val_guard, Cmd.val_ret] at h
    split at h <;> try (cases h; done)
    rename_i hp
    exact (ref23_Del.eq a0 a1).trans ((ref23_Del.nice a0 a1 hp (fun r0 r1 => some ([⟨Ty.box Tb23, r0⟩, ⟨Ty.bool, r1⟩] : List DVal))).trans h)

/-! ### table_Del -/
def table_Del.env : Env := envCons 25 table_find.ctr <| envNil
theorem table_Del.envOk : EnvOk Tryd.prog table_Del.env := envOk_cons table_find.known (envOk_nil _)
def table_Del.T0 : Tm := ⟨fill 0 82 [(0, Sl.ref (4000000 : Nat)), (6, Sl.data (Ty.int IntKind.i64))], [{ k := (4000000 : Nat), t := Ty.box (Ty.pair (Ty.own Te) (Ty.pair (Ty.int IntKind.i64) Ty.unit)), vir := true }]⟩
def table_Del.X0_exit0 : Tm := ⟨fill 0 82 [(0, Sl.ref (4000000 : Nat))], [{ k := (4000000 : Nat), t := Ty.box (Ty.pair (Ty.own Te) (Ty.pair (Ty.int IntKind.i64) Ty.unit)), vir := true }]⟩
def table_Del.round0 {R : Type} (v0 : Int) (v1 : List (Int × Int × Bool × Unit) × Int × Unit) (next : Int → (List (Int × Int × Bool × Unit) × Int × Unit) → Option R) (kexit0 : (List (Int × Int × Bool × Unit) × Int × Unit) → Option R) : Option R :=
  bif decide ((0 : Int) ≤ v0) && decide (v0 < (↑(List.length (Prod.fst v1)) : Int)) then bif Prod.fst (Prod.snd (Prod.snd (List.getD (Prod.fst v1) (Int.toNat v0) (Ty.dflt Te)))) then bif decide ((0 : Int) ≤ v0) && decide (v0 < (↑(List.length (Prod.fst v1)) : Int)) then bif decide ((0 : Int) ≤ v0) && decide (v0 < (↑(List.length (Prod.fst v1)) : Int)) then bif table_find.pre (List.set (Prod.fst v1) (Int.toNat v0) ((0 : Int), (0 : Int), false, ()), Prod.fst (Prod.snd v1), Prod.snd (Prod.snd v1)) (Prod.fst (List.getD (Prod.fst v1) (Int.toNat v0) (Ty.dflt Te))) then bif decide ((0 : Int) ≤ table_find (List.set (Prod.fst v1) (Int.toNat v0) ((0 : Int), (0 : Int), false, ()), Prod.fst (Prod.snd v1), Prod.snd (Prod.snd v1)) (Prod.fst (List.getD (Prod.fst v1) (Int.toNat v0) (Ty.dflt Te)))) && decide (table_find (List.set (Prod.fst v1) (Int.toNat v0) ((0 : Int), (0 : Int), false, ()), Prod.fst (Prod.snd v1), Prod.snd (Prod.snd v1)) (Prod.fst (List.getD (Prod.fst v1) (Int.toNat v0) (Ty.dflt Te))) < (↑(List.length (List.set (Prod.fst v1) (Int.toNat v0) ((0 : Int), (0 : Int), false, ()))) : Int)) then bif (↑(List.length (List.set (List.set (Prod.fst v1) (Int.toNat v0) ((0 : Int), (0 : Int), false, ())) (Int.toNat (table_find (List.set (Prod.fst v1) (Int.toNat v0) ((0 : Int), (0 : Int), false, ()), Prod.fst (Prod.snd v1), Prod.snd (Prod.snd v1)) (Prod.fst (List.getD (Prod.fst v1) (Int.toNat v0) (Ty.dflt Te))))) (List.getD (Prod.fst v1) (Int.toNat v0) (Ty.dflt Te)))) : Int) != (0 : Int) then next (Int.tmod (IntKind.wrap IntKind.i64 (v0 + (1 : Int))) ↑(List.length (List.set (List.set (Prod.fst v1) (Int.toNat v0) ((0 : Int), (0 : Int), false, ())) (Int.toNat (table_find (List.set (Prod.fst v1) (Int.toNat v0) ((0 : Int), (0 : Int), false, ()), Prod.fst (Prod.snd v1), Prod.snd (Prod.snd v1)) (Prod.fst (List.getD (Prod.fst v1) (Int.toNat v0) (Ty.dflt Te))))) (List.getD (Prod.fst v1) (Int.toNat v0) (Ty.dflt Te))))) (List.set (List.set (Prod.fst v1) (Int.toNat v0) ((0 : Int), (0 : Int), false, ())) (Int.toNat (table_find (List.set (Prod.fst v1) (Int.toNat v0) ((0 : Int), (0 : Int), false, ()), Prod.fst (Prod.snd v1), Prod.snd (Prod.snd v1)) (Prod.fst (List.getD (Prod.fst v1) (Int.toNat v0) (Ty.dflt Te))))) (List.getD (Prod.fst v1) (Int.toNat v0) (Ty.dflt Te)), Prod.snd v1) else none else none else none else none else none else kexit0 v1 else none
def table_Del.R0 {R : Type} (kexit0 : (List (Int × Int × Bool × Unit) × Int × Unit) → Option R) : (Int × (List (Int × Int × Bool × Unit) × Int × Unit)) → ((Int × (List (Int × Int × Bool × Unit) × Int × Unit)) → Option R) → Option R := fun (v0, v1) next => table_Del.round0 v0 v1 (fun w0 w1 => next (w0, w1)) kexit0
theorem table_Del.R0_eq {R : Type} (kexit0 : (List (Int × Int × Bool × Unit) × Int × Unit) → Option R) (v0 : Int) (v1 : List (Int × Int × Bool × Unit) × Int × Unit) (next : (Int × (List (Int × Int × Bool × Unit) × Int × Unit)) → Option R) : table_Del.R0 kexit0 (v0, v1) next = table_Del.round0 v0 v1 (fun w0 w1 => next (w0, w1)) kexit0 := rfl
def table_Del.loop0 {R : Type} (v0 : Int) (v1 : List (Int × Int × Bool × Unit) × Int × Unit) (kexit0 : (List (Int × Int × Bool × Unit) × Int × Unit) → Option R) : Option R := lp (table_Del.R0 kexit0) 5000 (v0, v1)
theorem table_Del.loop0_ok {R : Type} (v0 : Int) (v1 : List (Int × Int × Bool × Unit) × Int × Unit) (kexit0 : (List (Int × Int × Bool × Unit) × Int × Unit) → Option R) (r : R) (h : table_Del.loop0 v0 v1 kexit0 = some r) : ∃ n, lp (table_Del.R0 kexit0) n (v0, v1) = some r := ⟨5000, h⟩
theorem table_Del.loop0_nat {A B : Type} (v0 : Int) (v1 : List (Int × Int × Bool × Unit) × Int × Unit) (kexit0 : (List (Int × Int × Bool × Unit) × Int × Unit) → Option A) (kexit0' : (List (Int × Int × Bool × Unit) × Int × Unit) → Option B) (f : A → Option B) (hexit0 : ∀ e0, kexit0' e0 = (kexit0 e0).bind f) : table_Del.loop0 v0 v1 kexit0' = (table_Del.loop0 v0 v1 kexit0).bind f := by
  unfold table_Del.loop0
  refine nat_lp ?_ _ _
  intro v next next' hn
  obtain ⟨v0, v1⟩ := v
  rw [table_Del.R0_eq, table_Del.R0_eq]
  unfold table_Del.round0
  repeat (first | with_reducible exact nat_none _ | with_reducible exact hn _ | with_reducible exact hexit0 _ | with_reducible refine nat_cond ?_ ?_ | with_reducible refine nat_ite ?_ ?_)
def table_Del.C : Cfg := { rows := [], keep := [(0, [0, 6], [4000000]), (1000000, [0, 4], [4000000])], adopt := [] }
def table_Del.sum0 : FrV table_Del.T0.fr × StV table_Del.T0.st → (Ex → S → Option (List DVal)) → Option (List DVal) := fun ((v0, ()), (v1, ())) K => table_Del.loop0 v0 v1 (fun e0 => K (.exit 0) (pack table_Del.X0_exit0 ((()), (e0, ()))))
def table_Del.rnd0 : FrV table_Del.T0.fr × StV table_Del.T0.st → (FrV table_Del.T0.fr × StV table_Del.T0.st → Option (List DVal)) → (Ex → S → Option (List DVal)) → Option (List DVal) := fun ((v0, ()), (v1, ())) next K => table_Del.round0 v0 v1 (fun w0 w1 => next ((w0, ()), (w1, ()))) (fun e0 => K (.exit 0) (pack table_Del.X0_exit0 ((()), (e0, ()))))
def table_Del.L : Nat → Option Sum := fun i => if i = 0 then some (sumOf table_Del.T0 table_Del.sum0) else none
theorem table_Del.rnd0_eq : ∀ v (r : S → Option (List DVal)) (K : Ex → S → Option (List DVal)), exec Tryd.prog table_Del.C table_Del.env table_Del.L 0 (loopOf Tryd.f12 0) (pack table_Del.T0 v) (fun e s' => match e with | .normal => r (trim table_Del.C 0 s') | e => K e (trim table_Del.C (0 + 1000000) s')) = table_Del.rnd0 v (fun v' => r (pack table_Del.T0 v')) K :=
  fun ((v0, ()), (v1, ())) r K => by kernel_rfl
theorem table_Del.lp0 (K : Ex → S → Option (List DVal)) : ∀ (n : Nat) (v0 : Int) (v1 : List (Int × Int × Bool × Unit) × Int × Unit), lp (fun v next => table_Del.rnd0 v next K) n ((v0, ()), (v1, ())) = lp (table_Del.R0 (fun e0 => K (.exit 0) (pack table_Del.X0_exit0 ((()), (e0, ()))))) n (v0, v1) := by
  intro n
  induction n with
  | zero => intros; rfl
  | succ n ih =>
    intro v0 v1
    show table_Del.round0 v0 v1 (fun w0 w1 => lp (fun v next => table_Del.rnd0 v next K) n ((w0, ()), (w1, ()))) (fun e0 => K (.exit 0) (pack table_Del.X0_exit0 ((()), (e0, ())))) = table_Del.round0 v0 v1 (fun w0 w1 => lp (table_Del.R0 (fun e0 => K (.exit 0) (pack table_Del.X0_exit0 ((()), (e0, ()))))) n (w0, w1)) (fun e0 => K (.exit 0) (pack table_Del.X0_exit0 ((()), (e0, ()))))
    simp only [ih]
theorem table_Del.sum0_ok : SumOk Tryd.prog table_Del.C table_Del.env table_Del.L 0 (loopOf Tryd.f12 0) := sumOk_lp (T := table_Del.T0) (rnd := table_Del.rnd0) (f := table_Del.sum0) rfl table_Del.rnd0_eq fun ((v0, ()), (v1, ())) K r h => by
  obtain ⟨n, hn⟩ := table_Del.loop0_ok v0 v1 (fun e0 => K (.exit 0) (pack table_Del.X0_exit0 ((()), (e0, ())))) r h
  exact ⟨n, by rw [table_Del.lp0]; exact hn⟩
def table_Del.tree {R : Type} (a0 : List (Int × Int × Bool × Unit) × Int × Unit) (a1 : Int) (ret : (List (Int × Int × Bool × Unit) × Int × Unit) → Bool → Option R) : Option R :=
  bif table_find.pre (Prod.fst a0, Prod.fst (Prod.snd a0), Prod.snd (Prod.snd a0)) a1 then bif decide ((0 : Int) ≤ table_find (Prod.fst a0, Prod.fst (Prod.snd a0), Prod.snd (Prod.snd a0)) a1) && decide (table_find (Prod.fst a0, Prod.fst (Prod.snd a0), Prod.snd (Prod.snd a0)) a1 < (↑(List.length (Prod.fst a0)) : Int)) then bif !Prod.fst (Prod.snd (Prod.snd (List.getD (Prod.fst a0) (Int.toNat (table_find (Prod.fst a0, Prod.fst (Prod.snd a0), Prod.snd (Prod.snd a0)) a1)) (Ty.dflt Te)))) then ret a0 false else bif decide ((0 : Int) ≤ table_find (Prod.fst a0, Prod.fst (Prod.snd a0), Prod.snd (Prod.snd a0)) a1) && decide (table_find (Prod.fst a0, Prod.fst (Prod.snd a0), Prod.snd (Prod.snd a0)) a1 < (↑(List.length (Prod.fst a0)) : Int)) then bif (↑(List.length (List.set (Prod.fst a0) (Int.toNat (table_find (Prod.fst a0, Prod.fst (Prod.snd a0), Prod.snd (Prod.snd a0)) a1)) ((0 : Int), (0 : Int), false, ()))) : Int) != (0 : Int) then table_Del.loop0 (Int.tmod (IntKind.wrap IntKind.i64 (table_find (Prod.fst a0, Prod.fst (Prod.snd a0), Prod.snd (Prod.snd a0)) a1 + (1 : Int))) ↑(List.length (List.set (Prod.fst a0) (Int.toNat (table_find (Prod.fst a0, Prod.fst (Prod.snd a0), Prod.snd (Prod.snd a0)) a1)) ((0 : Int), (0 : Int), false, ())))) (List.set (Prod.fst a0) (Int.toNat (table_find (Prod.fst a0, Prod.fst (Prod.snd a0), Prod.snd (Prod.snd a0)) a1)) ((0 : Int), (0 : Int), false, ()), Prod.snd a0) fun e0 => ret (Prod.fst e0, IntKind.wrap IntKind.i64 (Prod.fst (Prod.snd e0) - (1 : Int)), ()) true else none else none else none else none
theorem table_Del.eq (a0 : List (Int × Int × Bool × Unit) × Int × Unit) (a1 : Int) : body Tryd.prog table_Del.C table_Del.env table_Del.L Tryd.f12 [⟨Ty.box (Ty.pair (Ty.own Te) (Ty.pair (Ty.int IntKind.i64) Ty.unit)), a0⟩, ⟨Ty.int IntKind.u32, a1⟩] = table_Del.tree a0 a1 (fun r0 r1 => some ([⟨Ty.box (Ty.pair (Ty.own Te) (Ty.pair (Ty.int IntKind.i64) Ty.unit)), r0⟩, ⟨Ty.bool, r1⟩] : List DVal)) := by kernel_rfl
def table_Del.opt (a0 : List (Int × Int × Bool × Unit) × Int × Unit) (a1 : Int) : Option ((List (Int × Int × Bool × Unit) × Int × Unit) × Bool) := table_Del.tree a0 a1 (fun r0 r1 => some (r0, r1))
theorem table_Del.nat {R : Type} (a0 : List (Int × Int × Bool × Unit) × Int × Unit) (a1 : Int) (ret : (List (Int × Int × Bool × Unit) × Int × Unit) → Bool → Option R) : table_Del.tree a0 a1 ret = (table_Del.opt a0 a1).bind (fun x => ret x.1 x.2) := by
  unfold table_Del.opt table_Del.tree
  repeat (first | with_reducible exact nat_none _ | with_reducible refine nat_cond ?_ ?_ | with_reducible refine nat_ite ?_ ?_ | (with_reducible refine table_Del.loop0_nat _ _ _ _ _ ?_ <;> intros) | (with_reducible refine nat_leaf ?_; rfl))
def table_Del.pre (a0 : List (Int × Int × Bool × Unit) × Int × Unit) (a1 : Int) : Bool := (table_Del.opt a0 a1).isSome
def table_Del (a0 : List (Int × Int × Bool × Unit) × Int × Unit) (a1 : Int) : (List (Int × Int × Bool × Unit) × Int × Unit) × Bool := (table_Del.opt a0 a1).getD default
theorem table_Del.of_opt (a0 : List (Int × Int × Bool × Unit) × Int × Unit) (a1 : Int) {x : (List (Int × Int × Bool × Unit) × Int × Unit) × Bool} (h : table_Del.opt a0 a1 = some x) : table_Del.pre a0 a1 = true ∧ table_Del a0 a1 = x := by
  unfold table_Del.pre table_Del
  rw [h]
  exact ⟨rfl, rfl⟩
theorem table_Del.nice {R : Type} (a0 : List (Int × Int × Bool × Unit) × Int × Unit) (a1 : Int) (hp : table_Del.pre a0 a1 = true) (ret : (List (Int × Int × Bool × Unit) × Int × Unit) → Bool → Option R) : table_Del.tree a0 a1 ret = ret (table_Del a0 a1).1 (table_Del a0 a1).2 := by
  rw [table_Del.nat]
  cases h : table_Del.opt a0 a1 with
  | none => rw [table_Del.pre, h] at hp; cases hp
  | some x => rw [(table_Del.of_opt a0 a1 h).2]; rfl
def table_Del.ctr : Ctr := ctrOf [Ty.box (Ty.pair (Ty.own Te) (Ty.pair (Ty.int IntKind.i64) Ty.unit)), Ty.int IntKind.u32] fun x => .guard (table_Del.pre (x.1) (x.2.1)) (.ret [⟨Ty.box (Ty.pair (Ty.own Te) (Ty.pair (Ty.int IntKind.i64) Ty.unit)), (table_Del (x.1) (x.2.1)).1⟩, ⟨Ty.bool, (table_Del (x.1) (x.2.1)).2⟩])
theorem table_Del.known : Known Tryd.prog 12 table_Del.ctr :=
  known_plain table_Del.envOk mixed Tryd.func12 (by kernel_rfl) (by kernel_rfl) (byId (by kernel_rfl : loopIds Tryd.f12 = [0]) (by intro q hq; simp only [List.mem_cons, List.not_mem_nil, or_false] at hq; subst hq; first | exact table_Del.sum0_ok)) (noSpots (by kernel_rfl)) fun x rs h => by
    obtain ⟨a0, a1, u⟩ := x
    cases u
    simp only [Cmd.val_guard, Cmd.val_ret] at h
    split at h <;> try (cases h; done)
    rename_i hp
    exact (table_Del.eq a0 a1).trans ((table_Del.nice a0 a1 hp (fun r0 r1 => some ([⟨Ty.box (Ty.pair (Ty.own Te) (Ty.pair (Ty.int IntKind.i64) Ty.unit)), r0⟩, ⟨Ty.bool, r1⟩] : List DVal))).trans h)

/-! ### law23_known -/
def law23_known.env : Env := envCons 8 table_New.ctr <| envCons 10 table_Put.ctr <| envCons 14 table_Get.ctr <| envCons 16 table_Len.ctr <| envCons 19 table_Places.ctr <| envCons 12 table_Del.ctr <| envCons 22 ref23_Home.ctr <| envCons 21 table_Home.ctr <| envNil
theorem law23_known.envOk : EnvOk Tryd.prog law23_known.env := envOk_cons table_New.known (envOk_cons table_Put.known (envOk_cons table_Get.known (envOk_cons table_Len.known (envOk_cons table_Places.known (envOk_cons table_Del.known (envOk_cons ref23_Home.known (envOk_cons table_Home.known (envOk_nil _))))))))
def law23_known.C : Cfg := { rows := [], keep := [], adopt := [] }
def law23_known.tree {R : Type}  (ret : Bool → Option R) : Option R :=
  ret true
theorem law23_known.eq  : body Tryd.prog law23_known.C law23_known.env noL Tryd.f7 [] = law23_known.tree  (fun r0 => some ([⟨Ty.bool, r0⟩] : List DVal)) := by kernel_rfl
def law23_known  : Bool :=
  true
theorem law23_known.nice {R : Type}  (ret : Bool → Option R) : law23_known.tree  ret = ret (law23_known ) := by
  unfold law23_known.tree law23_known
  simp only [Bool.apply_cond ret]
def law23_known.ctr : Ctr := ctrOf [] fun x => .ret [⟨Ty.bool, law23_known ⟩]
theorem law23_known.known : Known Tryd.prog 7 law23_known.ctr :=
  known_plain law23_known.envOk mixed Tryd.func7 (by kernel_rfl) (by kernel_rfl) (noLoops (by kernel_rfl)) (noSpots (by kernel_rfl)) fun x rs h => by
    have u := x
    cases x
    simp only [Cmd.val_ret] at h
    exact (law23_known.eq ).trans ((law23_known.nice  (fun r0 => some ([⟨Ty.bool, r0⟩] : List DVal))).trans h)

/-! ### law23_TableSizes -/
def law23_TableSizes.env : Env := envCons 7 law23_known.ctr <| envCons 8 table_New.ctr <| envCons 19 table_Places.ctr <| envCons 23 ref23_Size.ctr <| envNil
theorem law23_TableSizes.envOk : EnvOk Tryd.prog law23_TableSizes.env := envOk_cons law23_known.known (envOk_cons table_New.known (envOk_cons table_Places.known (envOk_cons ref23_Size.known (envOk_nil _))))


def law23_TableSizes.T2000007 : Tm := ⟨fill 0 41 [(6, Sl.data (Ty.int IntKind.i64)), (7, Sl.data (Ty.int IntKind.i64)), (15, Sl.data (Ty.sl (Ty.int IntKind.i64))), (16, Sl.data (Ty.int IntKind.i64)), (17, Sl.data (Ty.int IntKind.i64))], []⟩
def law23_TableSizes.X2000007_normal : Tm := ⟨fill 0 41 [(15, Sl.data (Ty.sl (Ty.int IntKind.i64))), (16, Sl.data (Ty.int IntKind.i64)), (17, Sl.data (Ty.int IntKind.i64)), (39, Sl.data Ty.bool)], []⟩
def law23_TableSizes.o2000007 {R : Type} (v0 : Int) (v1 : Int) (v2 : List Int) (v3 : Int) (v4 : Int) (knormal : (List Int) → Int → Int → Bool → Option R) : Option R :=
  bif v1 != ref23_Size v0 then knormal v2 v3 v4 true else bif decide (v1 < (8 : Int)) then knormal v2 v3 v4 true else knormal v2 v3 v4 (bitop BinOp.and IntKind.i64 v1 (IntKind.wrap IntKind.i64 (v1 - (1 : Int))) != (0 : Int))
def law23_TableSizes.s2000007 {R : Type} (v0 : Int) (v1 : Int) (v2 : List Int) (v3 : Int) (v4 : Int) (knormal : (List Int) → Int → Int → Bool → Option R) : Option R :=
  knormal v2 v3 v4 (v1 != ref23_Size v0 || (decide (v1 < (8 : Int)) || bitop BinOp.and IntKind.i64 v1 (IntKind.wrap IntKind.i64 (v1 - (1 : Int))) != (0 : Int)))
theorem law23_TableSizes.s2000007_eq {R : Type} (v0 : Int) (v1 : Int) (v2 : List Int) (v3 : Int) (v4 : Int) (knormal : (List Int) → Int → Int → Bool → Option R) : law23_TableSizes.s2000007 v0 v1 v2 v3 v4 knormal = law23_TableSizes.o2000007 v0 v1 v2 v3 v4 knormal := by
  unfold law23_TableSizes.s2000007 law23_TableSizes.o2000007
  (cases hc : v1 != ref23_Size v0 with | false => (cases hc : decide (v1 < (8 : Int)) with | false => (first | rfl | simp_all) | true => (first | rfl | simp_all)) | true => (first | rfl | simp_all))
def law23_TableSizes.T0 : Tm := ⟨fill 0 41 [(15, Sl.data (Ty.sl (Ty.int IntKind.i64))), (16, Sl.data (Ty.int IntKind.i64)), (17, Sl.data (Ty.int IntKind.i64))], []⟩
def law23_TableSizes.X0_ret : Tm := ⟨fill 0 41 [(4, Sl.data Ty.bool)], []⟩
def law23_TableSizes.X0_exit0 : Tm := ⟨fill 0 41 [], []⟩
def law23_TableSizes.round0 {R : Type} (v0 : List Int) (v1 : Int) (v2 : Int) (next : (List Int) → Int → Int → Option R) (kret : Bool → Option R) (kexit0 : Option R) : Option R :=
  bif decide (v2 < v1) then bif decide ((0 : Int) ≤ v2) && decide (v2 < (↑(List.length v0) : Int)) then bif table_New.pre (List.getD v0 (Int.toNat v2) (0 : Int)) then bif table_Places.pre (Prod.fst (table_New (List.getD v0 (Int.toNat v2) (0 : Int))), Prod.fst (Prod.snd (table_New (List.getD v0 (Int.toNat v2) (0 : Int)))), Prod.snd (Prod.snd (table_New (List.getD v0 (Int.toNat v2) (0 : Int))))) then bif (↑(List.length (table_Places (Prod.fst (table_New (List.getD v0 (Int.toNat v2) (0 : Int))), Prod.fst (Prod.snd (table_New (List.getD v0 (Int.toNat v2) (0 : Int)))), Prod.snd (Prod.snd (table_New (List.getD v0 (Int.toNat v2) (0 : Int))))))) : Int) != ref23_Size (List.getD v0 (Int.toNat v2) (0 : Int)) || (decide ((↑(List.length (table_Places (Prod.fst (table_New (List.getD v0 (Int.toNat v2) (0 : Int))), Prod.fst (Prod.snd (table_New (List.getD v0 (Int.toNat v2) (0 : Int)))), Prod.snd (Prod.snd (table_New (List.getD v0 (Int.toNat v2) (0 : Int))))))) : Int) < (8 : Int)) || bitop BinOp.and IntKind.i64 (↑(List.length (table_Places (Prod.fst (table_New (List.getD v0 (Int.toNat v2) (0 : Int))), Prod.fst (Prod.snd (table_New (List.getD v0 (Int.toNat v2) (0 : Int)))), Prod.snd (Prod.snd (table_New (List.getD v0 (Int.toNat v2) (0 : Int)))))))) (IntKind.wrap IntKind.i64 (↑(List.length (table_Places (Prod.fst (table_New (List.getD v0 (Int.toNat v2) (0 : Int))), Prod.fst (Prod.snd (table_New (List.getD v0 (Int.toNat v2) (0 : Int)))), Prod.snd (Prod.snd (table_New (List.getD v0 (Int.toNat v2) (0 : Int))))))) - (1 : Int))) != (0 : Int)) then kret false else next v0 v1 (IntKind.wrap IntKind.i64 (v2 + (1 : Int))) else none else none else none else kexit0
def law23_TableSizes.R0 {R : Type} (kret : Bool → Option R) (kexit0 : Option R) : ((List Int) × Int × Int) → (((List Int) × Int × Int) → Option R) → Option R := fun (v0, v1, v2) next => law23_TableSizes.round0 v0 v1 v2 (fun w0 w1 w2 => next (w0, w1, w2)) kret kexit0
theorem law23_TableSizes.R0_eq {R : Type} (kret : Bool → Option R) (kexit0 : Option R) (v0 : List Int) (v1 : Int) (v2 : Int) (next : ((List Int) × Int × Int) → Option R) : law23_TableSizes.R0 kret kexit0 (v0, v1, v2) next = law23_TableSizes.round0 v0 v1 v2 (fun w0 w1 w2 => next (w0, w1, w2)) kret kexit0 := rfl
def law23_TableSizes.loop0 {R : Type} (v0 : List Int) (v1 : Int) (v2 : Int) (kret : Bool → Option R) (kexit0 : Option R) : Option R := lp (law23_TableSizes.R0 kret kexit0) 10 (v0, v1, v2)
theorem law23_TableSizes.loop0_ok {R : Type} (v0 : List Int) (v1 : Int) (v2 : Int) (kret : Bool → Option R) (kexit0 : Option R) (r : R) (h : law23_TableSizes.loop0 v0 v1 v2 kret kexit0 = some r) : ∃ n, lp (law23_TableSizes.R0 kret kexit0) n (v0, v1, v2) = some r := ⟨10, h⟩
theorem law23_TableSizes.loop0_nat {A B : Type} (v0 : List Int) (v1 : Int) (v2 : Int) (kret : Bool → Option A) (kexit0 : Option A) (kret' : Bool → Option B) (kexit0' : Option B) (f : A → Option B) (hret : ∀ e0, kret' e0 = (kret e0).bind f) (hexit0 : kexit0' = (kexit0).bind f) : law23_TableSizes.loop0 v0 v1 v2 kret' kexit0' = (law23_TableSizes.loop0 v0 v1 v2 kret kexit0).bind f := by
  unfold law23_TableSizes.loop0
  refine nat_lp ?_ _ _
  intro v next next' hn
  obtain ⟨v0, v1, v2⟩ := v
  rw [law23_TableSizes.R0_eq, law23_TableSizes.R0_eq]
  unfold law23_TableSizes.round0
  repeat (first | unfold law23_TableSizes.s2000007)
  repeat (first | with_reducible exact nat_none _ | with_reducible exact hn _ | with_reducible exact hret _ | with_reducible exact hexit0 | with_reducible refine nat_cond ?_ ?_ | with_reducible refine nat_ite ?_ ?_)
def law23_TableSizes.C : Cfg := { rows := [], keep := [(0, [15, 16, 17], []), (1000000, [4], []), (2000007, [6, 7, 15, 16, 17], []), (12000007, [15, 16, 17, 39], [])], adopt := [] }
def law23_TableSizes.sum2000007 : FrV law23_TableSizes.T2000007.fr × StV law23_TableSizes.T2000007.st → (Ex → S → Option (List DVal)) → Option (List DVal) := fun ((v0, v1, v2, v3, v4, ()), (())) K => law23_TableSizes.s2000007 v0 v1 v2 v3 v4 (fun e0 e1 e2 e3 => K .normal (pack law23_TableSizes.X2000007_normal ((e0, e1, e2, e3, ()), (()))))
def law23_TableSizes.sum0 : FrV law23_TableSizes.T0.fr × StV law23_TableSizes.T0.st → (Ex → S → Option (List DVal)) → Option (List DVal) := fun ((v0, v1, v2, ()), (())) K => law23_TableSizes.loop0 v0 v1 v2 (fun e0 => K .ret (pack law23_TableSizes.X0_ret ((e0, ()), (())))) (K (.exit 0) (pack law23_TableSizes.X0_exit0 ((), ())))
def law23_TableSizes.rnd0 : FrV law23_TableSizes.T0.fr × StV law23_TableSizes.T0.st → (FrV law23_TableSizes.T0.fr × StV law23_TableSizes.T0.st → Option (List DVal)) → (Ex → S → Option (List DVal)) → Option (List DVal) := fun ((v0, v1, v2, ()), (())) next K => law23_TableSizes.round0 v0 v1 v2 (fun w0 w1 w2 => next ((w0, w1, w2, ()), (()))) (fun e0 => K .ret (pack law23_TableSizes.X0_ret ((e0, ()), (())))) (K (.exit 0) (pack law23_TableSizes.X0_exit0 ((), ())))
def law23_TableSizes.L : Nat → Option Sum := fun i => if i = 0 then some (sumOf law23_TableSizes.T0 law23_TableSizes.sum0) else if i = 2000007 then some (sumOf law23_TableSizes.T2000007 law23_TableSizes.sum2000007) else none
theorem law23_TableSizes.rnd0_eq : ∀ v (r : S → Option (List DVal)) (K : Ex → S → Option (List DVal)), exec Tryd.prog law23_TableSizes.C law23_TableSizes.env law23_TableSizes.L 0 (loopOf Tryd.f5 0) (pack law23_TableSizes.T0 v) (fun e s' => match e with | .normal => r (trim law23_TableSizes.C 0 s') | e => K e (trim law23_TableSizes.C (0 + 1000000) s')) = law23_TableSizes.rnd0 v (fun v' => r (pack law23_TableSizes.T0 v')) K :=
  fun ((v0, v1, v2, ()), (())) r K => by kernel_rfl
theorem law23_TableSizes.lp0 (K : Ex → S → Option (List DVal)) : ∀ (n : Nat) (v0 : List Int) (v1 : Int) (v2 : Int), lp (fun v next => law23_TableSizes.rnd0 v next K) n ((v0, v1, v2, ()), (())) = lp (law23_TableSizes.R0 (fun e0 => K .ret (pack law23_TableSizes.X0_ret ((e0, ()), (())))) (K (.exit 0) (pack law23_TableSizes.X0_exit0 ((), ())))) n (v0, v1, v2) := by
  intro n
  induction n with
  | zero => intros; rfl
  | succ n ih =>
    intro v0 v1 v2
    show law23_TableSizes.round0 v0 v1 v2 (fun w0 w1 w2 => lp (fun v next => law23_TableSizes.rnd0 v next K) n ((w0, w1, w2, ()), (()))) (fun e0 => K .ret (pack law23_TableSizes.X0_ret ((e0, ()), (())))) (K (.exit 0) (pack law23_TableSizes.X0_exit0 ((), ()))) = law23_TableSizes.round0 v0 v1 v2 (fun w0 w1 w2 => lp (law23_TableSizes.R0 (fun e0 => K .ret (pack law23_TableSizes.X0_ret ((e0, ()), (())))) (K (.exit 0) (pack law23_TableSizes.X0_exit0 ((), ())))) n (w0, w1, w2)) (fun e0 => K .ret (pack law23_TableSizes.X0_ret ((e0, ()), (())))) (K (.exit 0) (pack law23_TableSizes.X0_exit0 ((), ())))
    simp only [ih]
theorem law23_TableSizes.sum0_ok : SumOk Tryd.prog law23_TableSizes.C law23_TableSizes.env law23_TableSizes.L 0 (loopOf Tryd.f5 0) := sumOk_lp (T := law23_TableSizes.T0) (rnd := law23_TableSizes.rnd0) (f := law23_TableSizes.sum0) rfl law23_TableSizes.rnd0_eq fun ((v0, v1, v2, ()), (())) K r h => by
  obtain ⟨n, hn⟩ := law23_TableSizes.loop0_ok v0 v1 v2 (fun e0 => K .ret (pack law23_TableSizes.X0_ret ((e0, ()), (())))) (K (.exit 0) (pack law23_TableSizes.X0_exit0 ((), ()))) r h
  exact ⟨n, by rw [law23_TableSizes.lp0]; exact hn⟩
theorem law23_TableSizes.x2000007 : ∀ v (K : Ex → S → Option (List DVal)), exec1 Tryd.prog law23_TableSizes.C law23_TableSizes.env law23_TableSizes.L (spotOf Tryd.f5 2000007).2.1 (spotOf Tryd.f5 2000007).2.2 (pack law23_TableSizes.T2000007 v) (fun e s' => K e (trim law23_TableSizes.C (2000007 + 10000000) s')) = (fun (((v0, v1, v2, v3, v4, ()), (())) : FrV law23_TableSizes.T2000007.fr × StV law23_TableSizes.T2000007.st) => law23_TableSizes.o2000007 v0 v1 v2 v3 v4 (fun e0 e1 e2 e3 => K .normal (pack law23_TableSizes.X2000007_normal ((e0, e1, e2, e3, ()), (()))))) v :=
  fun ((v0, v1, v2, v3, v4, ()), (())) K => by kernel_rfl
theorem law23_TableSizes.sum2000007_ok : SpotOk Tryd.prog law23_TableSizes.C law23_TableSizes.env law23_TableSizes.L (spotOf Tryd.f5 2000007) := spotOk_of (T := law23_TableSizes.T2000007) (q := 2000007) (f := law23_TableSizes.sum2000007) (by kernel_rfl) (by kernel_rfl) fun ((v0, v1, v2, v3, v4, ()), (())) K r h => (law23_TableSizes.x2000007 _ K).trans ((law23_TableSizes.s2000007_eq v0 v1 v2 v3 v4 (fun e0 e1 e2 e3 => K .normal (pack law23_TableSizes.X2000007_normal ((e0, e1, e2, e3, ()), (()))))).symm.trans h)
def law23_TableSizes.tree {R : Type} (a0 : Int) (a1 : Int) (ret : Bool → Option R) : Option R :=
  law23_TableSizes.loop0 [iminmax false a0 (1048576 : Int), IntKind.wrap IntKind.i64 (Int.tmod a1 (5000 : Int)), (8 : Int), (9 : Int)] (4 : Int) (0 : Int) (fun e0 => ret e0) (ret true)
theorem law23_TableSizes.eq (a0 : Int) (a1 : Int) : body Tryd.prog law23_TableSizes.C law23_TableSizes.env law23_TableSizes.L Tryd.f5 [⟨Ty.int IntKind.i64, a0⟩, ⟨Ty.int IntKind.u16, a1⟩] = law23_TableSizes.tree a0 a1 (fun r0 => some ([⟨Ty.bool, r0⟩] : List DVal)) := by kernel_rfl
def law23_TableSizes.opt (a0 : Int) (a1 : Int) : Option (Bool) := law23_TableSizes.tree a0 a1 (fun r0 => some (r0))
theorem law23_TableSizes.nat {R : Type} (a0 : Int) (a1 : Int) (ret : Bool → Option R) : law23_TableSizes.tree a0 a1 ret = (law23_TableSizes.opt a0 a1).bind (fun x => ret x) := by
  unfold law23_TableSizes.opt law23_TableSizes.tree
  repeat (first | unfold law23_TableSizes.s2000007)
  repeat (first | with_reducible exact nat_none _ | with_reducible refine nat_cond ?_ ?_ | with_reducible refine nat_ite ?_ ?_ | (with_reducible refine law23_TableSizes.loop0_nat _ _ _ _ _ _ _ _ ?_ ?_ <;> intros) | (with_reducible refine nat_leaf ?_; rfl))
def law23_TableSizes.pre (a0 : Int) (a1 : Int) : Bool := (law23_TableSizes.opt a0 a1).isSome
def law23_TableSizes (a0 : Int) (a1 : Int) : Bool := (law23_TableSizes.opt a0 a1).getD default
theorem law23_TableSizes.of_opt (a0 : Int) (a1 : Int) {x : Bool} (h : law23_TableSizes.opt a0 a1 = some x) : law23_TableSizes.pre a0 a1 = true ∧ law23_TableSizes a0 a1 = x := by
  unfold law23_TableSizes.pre law23_TableSizes
  rw [h]
  exact ⟨rfl, rfl⟩
theorem law23_TableSizes.nice {R : Type} (a0 : Int) (a1 : Int) (hp : law23_TableSizes.pre a0 a1 = true) (ret : Bool → Option R) : law23_TableSizes.tree a0 a1 ret = ret (law23_TableSizes a0 a1) := by
  rw [law23_TableSizes.nat]
  cases h : law23_TableSizes.opt a0 a1 with
  | none => rw [law23_TableSizes.pre, h] at hp; cases hp
  | some x => rw [(law23_TableSizes.of_opt a0 a1 h).2]; rfl
def law23_TableSizes.ctr : Ctr := ctrOf [Ty.int IntKind.i64, Ty.int IntKind.u16] fun x => .guard (law23_TableSizes.pre (x.1) (x.2.1)) (.ret [⟨Ty.bool, law23_TableSizes (x.1) (x.2.1)⟩])
theorem law23_TableSizes.known : Known Tryd.prog 5 law23_TableSizes.ctr :=
  known_plain law23_TableSizes.envOk mixed Tryd.func5 (by kernel_rfl) (by kernel_rfl) (byId (by kernel_rfl : loopIds Tryd.f5 = [0]) (by intro q hq; simp only [List.mem_cons, List.not_mem_nil, or_false] at hq; subst hq; first | exact law23_TableSizes.sum0_ok)) (bySpot (ids := [2000007]) (by kernel_rfl) (by intro q hq; simp only [List.mem_cons, List.not_mem_nil, or_false] at hq; subst hq; first | exact law23_TableSizes.sum2000007_ok)) fun x rs h => by
    obtain ⟨a0, a1, u⟩ := x
    cases u
    simp only [Cmd.val_guard, Cmd.val_ret] at h
    split at h <;> try (cases h; done)
    rename_i hp
    exact (law23_TableSizes.eq a0 a1).trans ((law23_TableSizes.nice a0 a1 hp (fun r0 => some ([⟨Ty.bool, r0⟩] : List DVal))).trans h)
end
end Go.D.YtmdnddoiopgboaaDoor
