import Derived.Test.YtmdnddoiopgboaaDoorChecked
import Derived.Test.YtmdnddoiopgboaaDoorDX
import Derived.KernelRfl
import Derived.Test.YtmdnddoiopgboaaDoorLtab1
namespace Go.D.YtmdnddoiopgboaaDoor
open Go.Proofs
set_option linter.unusedVariables false
set_option linter.unusedSimpArgs false
set_option maxRecDepth 100000
noncomputable section
abbrev Te : Ty := Ty.pair (Ty.int IntKind.u32) (Ty.pair (Ty.int IntKind.i64) (Ty.pair Ty.bool Ty.unit))
abbrev Tb23 : Ty := Ty.pair (Ty.own Ty.bool) (Ty.pair (Ty.own (Ty.int IntKind.u32)) (Ty.pair (Ty.own (Ty.int IntKind.i64)) Ty.unit))
abbrev Tf23 : Ty := Ty.pair (Ty.sl Ty.bool) (Ty.pair (Ty.sl (Ty.int IntKind.u32)) (Ty.pair (Ty.sl (Ty.int IntKind.i64)) Ty.unit))
abbrev Tx23 : Ty := Ty.box (Ty.pair (Ty.own Ty.bool) (Ty.pair (Ty.own (Ty.int IntKind.u32)) (Ty.pair (Ty.own (Ty.int IntKind.i64)) Ty.unit)))
abbrev Tr23 : Ty := Ty.pt (Ty.pair (Ty.sl Ty.bool) (Ty.pair (Ty.sl (Ty.int IntKind.u32)) (Ty.pair (Ty.sl (Ty.int IntKind.i64)) Ty.unit)))
abbrev Tt : Ty := Ty.pair (Ty.own (Ty.pair (Ty.int IntKind.u32) (Ty.pair (Ty.int IntKind.i64) (Ty.pair Ty.bool Ty.unit)))) (Ty.pair (Ty.int IntKind.i64) Ty.unit)
abbrev Tts : Ty := Ty.pair (Ty.sl (Ty.pair (Ty.int IntKind.u32) (Ty.pair (Ty.int IntKind.i64) (Ty.pair Ty.bool Ty.unit)))) (Ty.pair (Ty.int IntKind.i64) Ty.unit)
abbrev Ttx : Ty := Ty.box (Ty.pair (Ty.own (Ty.pair (Ty.int IntKind.u32) (Ty.pair (Ty.int IntKind.i64) (Ty.pair Ty.bool Ty.unit)))) (Ty.pair (Ty.int IntKind.i64) Ty.unit))
abbrev Ttr : Ty := Ty.pt (Ty.pair (Ty.sl (Ty.pair (Ty.int IntKind.u32) (Ty.pair (Ty.int IntKind.i64) (Ty.pair Ty.bool Ty.unit)))) (Ty.pair (Ty.int IntKind.i64) Ty.unit))
abbrev Toi : Ty := Ty.own (Ty.int IntKind.i64)


/-! ### ref23_Len -/
def ref23_Len.env : Env := envNil
theorem ref23_Len.envOk : EnvOk Tryd.prog ref23_Len.env := envOk_nil _
def ref23_Len.T3000006 : Tm := ⟨fill 0 24 [(0, Sl.rop Tf23), (3, Sl.data (Ty.int IntKind.i64)), (4, Sl.data (Ty.int IntKind.i64)), (20, Sl.data Ty.bool)], []⟩
def ref23_Len.X3000006_normal : Tm := ⟨fill 0 24 [(0, Sl.rop Tf23), (3, Sl.data (Ty.int IntKind.i64)), (4, Sl.data (Ty.int IntKind.i64))], []⟩
def ref23_Len.o3000006 {R : Type} (v0 : List Bool × List Int × List Int × Unit) (v1 : Int) (v2 : Int) (v3 : Bool) (knormal : (List Bool × List Int × List Int × Unit) → Int → Int → Option R) : Option R :=
  bif v3 then knormal v0 (IntKind.wrap IntKind.i64 (v1 + (1 : Int))) v2 else knormal v0 v1 v2
def ref23_Len.s3000006 {R : Type} (v0 : List Bool × List Int × List Int × Unit) (v1 : Int) (v2 : Int) (v3 : Bool) (knormal : (List Bool × List Int × List Int × Unit) → Int → Int → Option R) : Option R :=
  knormal v0 (bif v3 then IntKind.wrap IntKind.i64 (v1 + (1 : Int)) else v1) v2
theorem ref23_Len.s3000006_eq {R : Type} (v0 : List Bool × List Int × List Int × Unit) (v1 : Int) (v2 : Int) (v3 : Bool) (knormal : (List Bool × List Int × List Int × Unit) → Int → Int → Option R) : ref23_Len.s3000006 v0 v1 v2 v3 knormal = ref23_Len.o3000006 v0 v1 v2 v3 knormal := by
  unfold ref23_Len.s3000006 ref23_Len.o3000006
  (cases hc : v3 with | false => (first | rfl | simp_all) | true => (first | rfl | simp_all))
def ref23_Len.T0 : Tm := ⟨fill 0 24 [(0, Sl.rop Tf23), (3, Sl.data (Ty.int IntKind.i64)), (4, Sl.data (Ty.int IntKind.i64))], []⟩
def ref23_Len.X0_exit0 : Tm := ⟨fill 0 24 [(3, Sl.data (Ty.int IntKind.i64))], []⟩
def ref23_Len.round0 {R : Type} (v0 : List Bool × List Int × List Int × Unit) (v1 : Int) (v2 : Int) (next : (List Bool × List Int × List Int × Unit) → Int → Int → Option R) (kexit0 : Int → Option R) : Option R :=
  bif decide (v2 < (↑(List.length (Prod.fst v0)) : Int)) then bif decide ((0 : Int) ≤ v2) && decide (v2 < (↑(List.length (Prod.fst v0)) : Int)) then next v0 (bif List.getD (Prod.fst v0) (Int.toNat v2) false then IntKind.wrap IntKind.i64 (v1 + (1 : Int)) else v1) (IntKind.wrap IntKind.i64 (v2 + (1 : Int))) else none else kexit0 v1
def ref23_Len.R0 {R : Type} (kexit0 : Int → Option R) : ((List Bool × List Int × List Int × Unit) × Int × Int) → (((List Bool × List Int × List Int × Unit) × Int × Int) → Option R) → Option R := fun (v0, v1, v2) next => ref23_Len.round0 v0 v1 v2 (fun w0 w1 w2 => next (w0, w1, w2)) kexit0
theorem ref23_Len.R0_eq {R : Type} (kexit0 : Int → Option R) (v0 : List Bool × List Int × List Int × Unit) (v1 : Int) (v2 : Int) (next : ((List Bool × List Int × List Int × Unit) × Int × Int) → Option R) : ref23_Len.R0 kexit0 (v0, v1, v2) next = ref23_Len.round0 v0 v1 v2 (fun w0 w1 w2 => next (w0, w1, w2)) kexit0 := rfl
def ref23_Len.loop0 {R : Type} (v0 : List Bool × List Int × List Int × Unit) (v1 : Int) (v2 : Int) (kexit0 : Int → Option R) : Option R := lp (ref23_Len.R0 kexit0) 5000 (v0, v1, v2)
theorem ref23_Len.loop0_ok {R : Type} (v0 : List Bool × List Int × List Int × Unit) (v1 : Int) (v2 : Int) (kexit0 : Int → Option R) (r : R) (h : ref23_Len.loop0 v0 v1 v2 kexit0 = some r) : ∃ n, lp (ref23_Len.R0 kexit0) n (v0, v1, v2) = some r := ⟨5000, h⟩
theorem ref23_Len.loop0_nat {A B : Type} (v0 : List Bool × List Int × List Int × Unit) (v1 : Int) (v2 : Int) (kexit0 : Int → Option A) (kexit0' : Int → Option B) (f : A → Option B) (hexit0 : ∀ e0, kexit0' e0 = (kexit0 e0).bind f) : ref23_Len.loop0 v0 v1 v2 kexit0' = (ref23_Len.loop0 v0 v1 v2 kexit0).bind f := by
  unfold ref23_Len.loop0
  refine nat_lp ?_ _ _
  intro v next next' hn
  obtain ⟨v0, v1, v2⟩ := v
  rw [ref23_Len.R0_eq, ref23_Len.R0_eq]
  unfold ref23_Len.round0
  repeat (first | unfold ref23_Len.s3000006)
  repeat (first | with_reducible exact nat_none _ | with_reducible exact hn _ | with_reducible exact hexit0 _ | with_reducible refine nat_cond ?_ ?_ | with_reducible refine nat_ite ?_ ?_)
def ref23_Len.C : Cfg := { rows := [], keep := [(0, [0, 3, 4], []), (1000000, [2, 3], []), (3000006, [0, 3, 4, 20], []), (13000006, [0, 3, 4], [])], adopt := [] }
def ref23_Len.sum3000006 : FrV ref23_Len.T3000006.fr × StV ref23_Len.T3000006.st → (Ex → S → Option (List DVal)) → Option (List DVal) := fun ((v0, v1, v2, v3, ()), (())) K => ref23_Len.s3000006 v0 v1 v2 v3 (fun e0 e1 e2 => K .normal (pack ref23_Len.X3000006_normal ((e0, e1, e2, ()), (()))))
def ref23_Len.sum0 : FrV ref23_Len.T0.fr × StV ref23_Len.T0.st → (Ex → S → Option (List DVal)) → Option (List DVal) := fun ((v0, v1, v2, ()), (())) K => ref23_Len.loop0 v0 v1 v2 (fun e0 => K (.exit 0) (pack ref23_Len.X0_exit0 ((e0, ()), (()))))
def ref23_Len.rnd0 : FrV ref23_Len.T0.fr × StV ref23_Len.T0.st → (FrV ref23_Len.T0.fr × StV ref23_Len.T0.st → Option (List DVal)) → (Ex → S → Option (List DVal)) → Option (List DVal) := fun ((v0, v1, v2, ()), (())) next K => ref23_Len.round0 v0 v1 v2 (fun w0 w1 w2 => next ((w0, w1, w2, ()), (()))) (fun e0 => K (.exit 0) (pack ref23_Len.X0_exit0 ((e0, ()), (()))))
def ref23_Len.L : Nat → Option Sum := fun i => if i = 0 then some (sumOf ref23_Len.T0 ref23_Len.sum0) else if i = 3000006 then some (sumOf ref23_Len.T3000006 ref23_Len.sum3000006) else none
theorem ref23_Len.rnd0_eq : ∀ v (r : S → Option (List DVal)) (K : Ex → S → Option (List DVal)), exec Tryd.prog ref23_Len.C ref23_Len.env ref23_Len.L 0 (loopOf Tryd.f17 0) (pack ref23_Len.T0 v) (fun e s' => match e with | .normal => r (trim ref23_Len.C 0 s') | e => K e (trim ref23_Len.C (0 + 1000000) s')) = ref23_Len.rnd0 v (fun v' => r (pack ref23_Len.T0 v')) K :=
  fun ((v0, v1, v2, ()), (())) r K => by kernel_rfl
theorem ref23_Len.lp0 (K : Ex → S → Option (List DVal)) : ∀ (n : Nat) (v0 : List Bool × List Int × List Int × Unit) (v1 : Int) (v2 : Int), lp (fun v next => ref23_Len.rnd0 v next K) n ((v0, v1, v2, ()), (())) = lp (ref23_Len.R0 (fun e0 => K (.exit 0) (pack ref23_Len.X0_exit0 ((e0, ()), (()))))) n (v0, v1, v2) := by
  intro n
  induction n with
  | zero => intros; rfl
  | succ n ih =>
    intro v0 v1 v2
    show ref23_Len.round0 v0 v1 v2 (fun w0 w1 w2 => lp (fun v next => ref23_Len.rnd0 v next K) n ((w0, w1, w2, ()), (()))) (fun e0 => K (.exit 0) (pack ref23_Len.X0_exit0 ((e0, ()), (())))) = ref23_Len.round0 v0 v1 v2 (fun w0 w1 w2 => lp (ref23_Len.R0 (fun e0 => K (.exit 0) (pack ref23_Len.X0_exit0 ((e0, ()), (()))))) n (w0, w1, w2)) (fun e0 => K (.exit 0) (pack ref23_Len.X0_exit0 ((e0, ()), (()))))
    simp only [ih]
theorem ref23_Len.sum0_ok : SumOk Tryd.prog ref23_Len.C ref23_Len.env ref23_Len.L 0 (loopOf Tryd.f17 0) := sumOk_lp (T := ref23_Len.T0) (rnd := ref23_Len.rnd0) (f := ref23_Len.sum0) rfl ref23_Len.rnd0_eq fun ((v0, v1, v2, ()), (())) K r h => by
  obtain ⟨n, hn⟩ := ref23_Len.loop0_ok v0 v1 v2 (fun e0 => K (.exit 0) (pack ref23_Len.X0_exit0 ((e0, ()), (())))) r h
  exact ⟨n, by rw [ref23_Len.lp0]; exact hn⟩
theorem ref23_Len.x3000006 : ∀ v (K : Ex → S → Option (List DVal)), exec1 Tryd.prog ref23_Len.C ref23_Len.env ref23_Len.L (spotOf Tryd.f17 3000006).2.1 (spotOf Tryd.f17 3000006).2.2 (pack ref23_Len.T3000006 v) (fun e s' => K e (trim ref23_Len.C (3000006 + 10000000) s')) = (fun (((v0, v1, v2, v3, ()), (())) : FrV ref23_Len.T3000006.fr × StV ref23_Len.T3000006.st) => ref23_Len.o3000006 v0 v1 v2 v3 (fun e0 e1 e2 => K .normal (pack ref23_Len.X3000006_normal ((e0, e1, e2, ()), (()))))) v :=
  fun ((v0, v1, v2, v3, ()), (())) K => by kernel_rfl
theorem ref23_Len.sum3000006_ok : SpotOk Tryd.prog ref23_Len.C ref23_Len.env ref23_Len.L (spotOf Tryd.f17 3000006) := spotOk_of (T := ref23_Len.T3000006) (q := 3000006) (f := ref23_Len.sum3000006) (by kernel_rfl) (by kernel_rfl) fun ((v0, v1, v2, v3, ()), (())) K r h => (ref23_Len.x3000006 _ K).trans ((ref23_Len.s3000006_eq v0 v1 v2 v3 (fun e0 e1 e2 => K .normal (pack ref23_Len.X3000006_normal ((e0, e1, e2, ()), (()))))).symm.trans h)
def ref23_Len.tree {R : Type} (a0 : List Bool × List Int × List Int × Unit) (ret : Int → Option R) : Option R :=
  ref23_Len.loop0 a0 (0 : Int) (0 : Int) fun e0 => ret e0
theorem ref23_Len.eq (a0 : List Bool × List Int × List Int × Unit) : body Tryd.prog ref23_Len.C ref23_Len.env ref23_Len.L Tryd.f17 [⟨Ty.pt Tf23, a0⟩] = ref23_Len.tree a0 (fun r0 => some ([⟨Ty.int IntKind.i64, r0⟩] : List DVal)) := by kernel_rfl
def ref23_Len.opt (a0 : List Bool × List Int × List Int × Unit) : Option (Int) := ref23_Len.tree a0 (fun r0 => some (r0))
theorem ref23_Len.nat {R : Type} (a0 : List Bool × List Int × List Int × Unit) (ret : Int → Option R) : ref23_Len.tree a0 ret = (ref23_Len.opt a0).bind (fun x => ret x) := by
  unfold ref23_Len.opt ref23_Len.tree
  repeat (first | unfold ref23_Len.s3000006)
  repeat (first | with_reducible exact nat_none _ | with_reducible refine nat_cond ?_ ?_ | with_reducible refine nat_ite ?_ ?_ | (with_reducible refine ref23_Len.loop0_nat _ _ _ _ _ _ ?_ <;> intros) | (with_reducible refine nat_leaf ?_; rfl))
def ref23_Len.pre (a0 : List Bool × List Int × List Int × Unit) : Bool := (ref23_Len.opt a0).isSome
def ref23_Len (a0 : List Bool × List Int × List Int × Unit) : Int := (ref23_Len.opt a0).getD default
theorem ref23_Len.of_opt (a0 : List Bool × List Int × List Int × Unit) {x : Int} (h : ref23_Len.opt a0 = some x) : ref23_Len.pre a0 = true ∧ ref23_Len a0 = x := by
  unfold ref23_Len.pre ref23_Len
  rw [h]
  exact ⟨rfl, rfl⟩
theorem ref23_Len.nice {R : Type} (a0 : List Bool × List Int × List Int × Unit) (hp : ref23_Len.pre a0 = true) (ret : Int → Option R) : ref23_Len.tree a0 ret = ret (ref23_Len a0) := by
  rw [ref23_Len.nat]
  cases h : ref23_Len.opt a0 with
  | none => rw [ref23_Len.pre, h] at hp; cases hp
  | some x => rw [(ref23_Len.of_opt a0 h).2]; rfl
def ref23_Len.ctr : Ctr := ctrOf [Ty.pt Tf23] fun x => .guard (ref23_Len.pre (x.1)) (.ret [⟨Ty.int IntKind.i64, ref23_Len (x.1)⟩])
theorem ref23_Len.known : Known Tryd.prog 17 ref23_Len.ctr :=
  known_plain ref23_Len.envOk mixed Tryd.func17 (by kernel_rfl) (by kernel_rfl) (byId (by kernel_rfl : loopIds Tryd.f17 = [0]) (by intro q hq; simp only [List.mem_cons, List.not_mem_nil, or_false] at hq; subst hq; first | exact ref23_Len.sum0_ok)) (bySpot (ids := [3000006]) (by kernel_rfl) (by intro q hq; simp only [List.mem_cons, List.not_mem_nil, or_false] at hq; subst hq; first | exact ref23_Len.sum3000006_ok)) fun x rs h => by
    obtain ⟨a0, u⟩ := x
    cases u
    simp only [Cmd.val_guard, Cmd.val_ret] at h
    split at h <;> try (cases h; done)
    rename_i hp
    exact (ref23_Len.eq a0).trans ((ref23_Len.nice a0 hp (fun r0 => some ([⟨Ty.int IntKind.i64, r0⟩] : List DVal))).trans h)

/-! ### ref23_find -/
def ref23_find.env : Env := envCons 22 ref23_Home.ctr <| envNil
theorem ref23_find.envOk : EnvOk Tryd.prog ref23_find.env := envOk_cons ref23_Home.known (envOk_nil _)
def ref23_find.T2000002 : Tm := ⟨fill 0 40 [(0, Sl.rop Tf23), (1, Sl.data (Ty.int IntKind.u32)), (5, Sl.data (Ty.int IntKind.i64))], []⟩
def ref23_find.X2000002_normal : Tm := ⟨fill 0 40 [(0, Sl.rop Tf23), (1, Sl.data (Ty.int IntKind.u32)), (5, Sl.data (Ty.int IntKind.i64)), (30, Sl.data Ty.bool)], []⟩
def ref23_find.o2000002 {R : Type} (v0 : List Bool × List Int × List Int × Unit) (v1 : Int) (v2 : Int) (knormal : (List Bool × List Int × List Int × Unit) → Int → Int → Bool → Option R) : Option R :=
  bif decide ((0 : Int) ≤ v2) && decide (v2 < (↑(List.length (Prod.fst v0)) : Int)) then bif List.getD (Prod.fst v0) (Int.toNat v2) false then bif decide ((0 : Int) ≤ v2) && decide (v2 < (↑(List.length (Prod.fst (Prod.snd v0))) : Int)) then knormal v0 v1 v2 (List.getD (Prod.fst (Prod.snd v0)) (Int.toNat v2) (0 : Int) != v1) else none else knormal v0 v1 v2 false else none
def ref23_find.s2000002 {R : Type} (v0 : List Bool × List Int × List Int × Unit) (v1 : Int) (v2 : Int) (knormal : (List Bool × List Int × List Int × Unit) → Int → Int → Bool → Option R) : Option R :=
  bif decide ((0 : Int) ≤ v2) && decide (v2 < (↑(List.length (Prod.fst v0)) : Int)) then bif !List.getD (Prod.fst v0) (Int.toNat v2) false || decide ((0 : Int) ≤ v2) && decide (v2 < (↑(List.length (Prod.fst (Prod.snd v0))) : Int)) then knormal v0 v1 v2 (List.getD (Prod.fst v0) (Int.toNat v2) false && List.getD (Prod.fst (Prod.snd v0)) (Int.toNat v2) (0 : Int) != v1) else none else none
theorem ref23_find.s2000002_eq {R : Type} (v0 : List Bool × List Int × List Int × Unit) (v1 : Int) (v2 : Int) (knormal : (List Bool × List Int × List Int × Unit) → Int → Int → Bool → Option R) : ref23_find.s2000002 v0 v1 v2 knormal = ref23_find.o2000002 v0 v1 v2 knormal := by
  unfold ref23_find.s2000002 ref23_find.o2000002
  (cases hc : decide ((0 : Int) ≤ v2) && decide (v2 < (↑(List.length (Prod.fst v0)) : Int)) with | false => (first | rfl | simp_all) | true => (cases hc : List.getD (Prod.fst v0) (Int.toNat v2) false with | false => (first | rfl | simp_all) | true => (cases hc : decide ((0 : Int) ≤ v2) && decide (v2 < (↑(List.length (Prod.fst (Prod.snd v0))) : Int)) with | false => (first | rfl | simp_all) | true => (first | rfl | simp_all))))
def ref23_find.T0 : Tm := ⟨fill 0 40 [(0, Sl.rop Tf23), (1, Sl.data (Ty.int IntKind.u32)), (5, Sl.data (Ty.int IntKind.i64))], []⟩
def ref23_find.X0_exit0 : Tm := ⟨fill 0 40 [(5, Sl.data (Ty.int IntKind.i64))], []⟩
def ref23_find.round0 {R : Type} (v0 : List Bool × List Int × List Int × Unit) (v1 : Int) (v2 : Int) (next : (List Bool × List Int × List Int × Unit) → Int → Int → Option R) (kexit0 : Int → Option R) : Option R :=
  bif decide ((0 : Int) ≤ v2) && decide (v2 < (↑(List.length (Prod.fst v0)) : Int)) then bif !List.getD (Prod.fst v0) (Int.toNat v2) false || decide ((0 : Int) ≤ v2) && decide (v2 < (↑(List.length (Prod.fst (Prod.snd v0))) : Int)) then bif List.getD (Prod.fst v0) (Int.toNat v2) false && List.getD (Prod.fst (Prod.snd v0)) (Int.toNat v2) (0 : Int) != v1 then bif (↑(List.length (Prod.fst (Prod.snd (Prod.snd v0)))) : Int) != (0 : Int) then next v0 v1 (Int.tmod (IntKind.wrap IntKind.i64 (v2 + (1 : Int))) ↑(List.length (Prod.fst (Prod.snd (Prod.snd v0))))) else none else kexit0 v2 else none else none
def ref23_find.R0 {R : Type} (kexit0 : Int → Option R) : ((List Bool × List Int × List Int × Unit) × Int × Int) → (((List Bool × List Int × List Int × Unit) × Int × Int) → Option R) → Option R := fun (v0, v1, v2) next => ref23_find.round0 v0 v1 v2 (fun w0 w1 w2 => next (w0, w1, w2)) kexit0
theorem ref23_find.R0_eq {R : Type} (kexit0 : Int → Option R) (v0 : List Bool × List Int × List Int × Unit) (v1 : Int) (v2 : Int) (next : ((List Bool × List Int × List Int × Unit) × Int × Int) → Option R) : ref23_find.R0 kexit0 (v0, v1, v2) next = ref23_find.round0 v0 v1 v2 (fun w0 w1 w2 => next (w0, w1, w2)) kexit0 := rfl
def ref23_find.loop0 {R : Type} (v0 : List Bool × List Int × List Int × Unit) (v1 : Int) (v2 : Int) (kexit0 : Int → Option R) : Option R := lp (ref23_find.R0 kexit0) 5000 (v0, v1, v2)
theorem ref23_find.loop0_ok {R : Type} (v0 : List Bool × List Int × List Int × Unit) (v1 : Int) (v2 : Int) (kexit0 : Int → Option R) (r : R) (h : ref23_find.loop0 v0 v1 v2 kexit0 = some r) : ∃ n, lp (ref23_find.R0 kexit0) n (v0, v1, v2) = some r := ⟨5000, h⟩
theorem ref23_find.loop0_nat {A B : Type} (v0 : List Bool × List Int × List Int × Unit) (v1 : Int) (v2 : Int) (kexit0 : Int → Option A) (kexit0' : Int → Option B) (f : A → Option B) (hexit0 : ∀ e0, kexit0' e0 = (kexit0 e0).bind f) : ref23_find.loop0 v0 v1 v2 kexit0' = (ref23_find.loop0 v0 v1 v2 kexit0).bind f := by
  unfold ref23_find.loop0
  refine nat_lp ?_ _ _
  intro v next next' hn
  obtain ⟨v0, v1, v2⟩ := v
  rw [ref23_find.R0_eq, ref23_find.R0_eq]
  unfold ref23_find.round0
  repeat (first | unfold ref23_find.s2000002)
  repeat (first | with_reducible exact nat_none _ | with_reducible exact hn _ | with_reducible exact hexit0 _ | with_reducible refine nat_cond ?_ ?_ | with_reducible refine nat_ite ?_ ?_)
def ref23_find.C : Cfg := { rows := [], keep := [(0, [0, 1, 5], []), (1000000, [4, 5], []), (2000002, [0, 1, 5], []), (12000002, [0, 1, 5, 30], [])], adopt := [] }
def ref23_find.sum2000002 : FrV ref23_find.T2000002.fr × StV ref23_find.T2000002.st → (Ex → S → Option (List DVal)) → Option (List DVal) := fun ((v0, v1, v2, ()), (())) K => ref23_find.s2000002 v0 v1 v2 (fun e0 e1 e2 e3 => K .normal (pack ref23_find.X2000002_normal ((e0, e1, e2, e3, ()), (()))))
def ref23_find.sum0 : FrV ref23_find.T0.fr × StV ref23_find.T0.st → (Ex → S → Option (List DVal)) → Option (List DVal) := fun ((v0, v1, v2, ()), (())) K => ref23_find.loop0 v0 v1 v2 (fun e0 => K (.exit 0) (pack ref23_find.X0_exit0 ((e0, ()), (()))))
def ref23_find.rnd0 : FrV ref23_find.T0.fr × StV ref23_find.T0.st → (FrV ref23_find.T0.fr × StV ref23_find.T0.st → Option (List DVal)) → (Ex → S → Option (List DVal)) → Option (List DVal) := fun ((v0, v1, v2, ()), (())) next K => ref23_find.round0 v0 v1 v2 (fun w0 w1 w2 => next ((w0, w1, w2, ()), (()))) (fun e0 => K (.exit 0) (pack ref23_find.X0_exit0 ((e0, ()), (()))))
def ref23_find.L : Nat → Option Sum := fun i => if i = 0 then some (sumOf ref23_find.T0 ref23_find.sum0) else if i = 2000002 then some (sumOf ref23_find.T2000002 ref23_find.sum2000002) else none
theorem ref23_find.rnd0_eq : ∀ v (r : S → Option (List DVal)) (K : Ex → S → Option (List DVal)), exec Tryd.prog ref23_find.C ref23_find.env ref23_find.L 0 (loopOf Tryd.f26 0) (pack ref23_find.T0 v) (fun e s' => match e with | .normal => r (trim ref23_find.C 0 s') | e => K e (trim ref23_find.C (0 + 1000000) s')) = ref23_find.rnd0 v (fun v' => r (pack ref23_find.T0 v')) K :=
  fun ((v0, v1, v2, ()), (())) r K => by kernel_rfl
theorem ref23_find.lp0 (K : Ex → S → Option (List DVal)) : ∀ (n : Nat) (v0 : List Bool × List Int × List Int × Unit) (v1 : Int) (v2 : Int), lp (fun v next => ref23_find.rnd0 v next K) n ((v0, v1, v2, ()), (())) = lp (ref23_find.R0 (fun e0 => K (.exit 0) (pack ref23_find.X0_exit0 ((e0, ()), (()))))) n (v0, v1, v2) := by
  intro n
  induction n with
  | zero => intros; rfl
  | succ n ih =>
    intro v0 v1 v2
    show ref23_find.round0 v0 v1 v2 (fun w0 w1 w2 => lp (fun v next => ref23_find.rnd0 v next K) n ((w0, w1, w2, ()), (()))) (fun e0 => K (.exit 0) (pack ref23_find.X0_exit0 ((e0, ()), (())))) = ref23_find.round0 v0 v1 v2 (fun w0 w1 w2 => lp (ref23_find.R0 (fun e0 => K (.exit 0) (pack ref23_find.X0_exit0 ((e0, ()), (()))))) n (w0, w1, w2)) (fun e0 => K (.exit 0) (pack ref23_find.X0_exit0 ((e0, ()), (()))))
    simp only [ih]
theorem ref23_find.sum0_ok : SumOk Tryd.prog ref23_find.C ref23_find.env ref23_find.L 0 (loopOf Tryd.f26 0) := sumOk_lp (T := ref23_find.T0) (rnd := ref23_find.rnd0) (f := ref23_find.sum0) rfl ref23_find.rnd0_eq fun ((v0, v1, v2, ()), (())) K r h => by
  obtain ⟨n, hn⟩ := ref23_find.loop0_ok v0 v1 v2 (fun e0 => K (.exit 0) (pack ref23_find.X0_exit0 ((e0, ()), (())))) r h
  exact ⟨n, by rw [ref23_find.lp0]; exact hn⟩
theorem ref23_find.x2000002 : ∀ v (K : Ex → S → Option (List DVal)), exec1 Tryd.prog ref23_find.C ref23_find.env ref23_find.L (spotOf Tryd.f26 2000002).2.1 (spotOf Tryd.f26 2000002).2.2 (pack ref23_find.T2000002 v) (fun e s' => K e (trim ref23_find.C (2000002 + 10000000) s')) = (fun (((v0, v1, v2, ()), (())) : FrV ref23_find.T2000002.fr × StV ref23_find.T2000002.st) => ref23_find.o2000002 v0 v1 v2 (fun e0 e1 e2 e3 => K .normal (pack ref23_find.X2000002_normal ((e0, e1, e2, e3, ()), (()))))) v :=
  fun ((v0, v1, v2, ()), (())) K => by kernel_rfl
theorem ref23_find.sum2000002_ok : SpotOk Tryd.prog ref23_find.C ref23_find.env ref23_find.L (spotOf Tryd.f26 2000002) := spotOk_of (T := ref23_find.T2000002) (q := 2000002) (f := ref23_find.sum2000002) (by kernel_rfl) (by kernel_rfl) fun ((v0, v1, v2, ()), (())) K r h => (ref23_find.x2000002 _ K).trans ((ref23_find.s2000002_eq v0 v1 v2 (fun e0 e1 e2 e3 => K .normal (pack ref23_find.X2000002_normal ((e0, e1, e2, e3, ()), (()))))).symm.trans h)
def ref23_find.tree {R : Type} (a0 : List Bool × List Int × List Int × Unit) (a1 : Int) (ret : Int → Option R) : Option R :=
  bif ref23_Home.pre a1 ↑(List.length (Prod.fst (Prod.snd (Prod.snd a0)))) then ref23_find.loop0 a0 a1 (ref23_Home a1 ↑(List.length (Prod.fst (Prod.snd (Prod.snd a0))))) fun e0 => ret e0 else none
theorem ref23_find.eq (a0 : List Bool × List Int × List Int × Unit) (a1 : Int) : body Tryd.prog ref23_find.C ref23_find.env ref23_find.L Tryd.f26 [⟨Ty.pt Tf23, a0⟩, ⟨Ty.int IntKind.u32, a1⟩] = ref23_find.tree a0 a1 (fun r0 => some ([⟨Ty.int IntKind.i64, r0⟩] : List DVal)) := by kernel_rfl
def ref23_find.opt (a0 : List Bool × List Int × List Int × Unit) (a1 : Int) : Option (Int) := ref23_find.tree a0 a1 (fun r0 => some (r0))
theorem ref23_find.nat {R : Type} (a0 : List Bool × List Int × List Int × Unit) (a1 : Int) (ret : Int → Option R) : ref23_find.tree a0 a1 ret = (ref23_find.opt a0 a1).bind (fun x => ret x) := by
  unfold ref23_find.opt ref23_find.tree
  repeat (first | unfold ref23_find.s2000002)
  repeat (first | with_reducible exact nat_none _ | with_reducible refine nat_cond ?_ ?_ | with_reducible refine nat_ite ?_ ?_ | (with_reducible refine ref23_find.loop0_nat _ _ _ _ _ _ ?_ <;> intros) | (with_reducible refine nat_leaf ?_; rfl))
def ref23_find.pre (a0 : List Bool × List Int × List Int × Unit) (a1 : Int) : Bool := (ref23_find.opt a0 a1).isSome
def ref23_find (a0 : List Bool × List Int × List Int × Unit) (a1 : Int) : Int := (ref23_find.opt a0 a1).getD default
theorem ref23_find.of_opt (a0 : List Bool × List Int × List Int × Unit) (a1 : Int) {x : Int} (h : ref23_find.opt a0 a1 = some x) : ref23_find.pre a0 a1 = true ∧ ref23_find a0 a1 = x := by
  unfold ref23_find.pre ref23_find
  rw [h]
  exact ⟨rfl, rfl⟩
theorem ref23_find.nice {R : Type} (a0 : List Bool × List Int × List Int × Unit) (a1 : Int) (hp : ref23_find.pre a0 a1 = true) (ret : Int → Option R) : ref23_find.tree a0 a1 ret = ret (ref23_find a0 a1) := by
  rw [ref23_find.nat]
  cases h : ref23_find.opt a0 a1 with
  | none => rw [ref23_find.pre, h] at hp; cases hp
  | some x => rw [(ref23_find.of_opt a0 a1 h).2]; rfl
def ref23_find.ctr : Ctr := ctrOf [Ty.pt Tf23, Ty.int IntKind.u32] fun x => .guard (ref23_find.pre (x.1) (x.2.1)) (.ret [⟨Ty.int IntKind.i64, ref23_find (x.1) (x.2.1)⟩])
theorem ref23_find.known : Known Tryd.prog 26 ref23_find.ctr :=
  known_plain ref23_find.envOk mixed Tryd.func26 (by kernel_rfl) (by kernel_rfl) (byId (by kernel_rfl : loopIds Tryd.f26 = [0]) (by intro q hq; simp only [List.mem_cons, List.not_mem_nil, or_false] at hq; subst hq; first | exact ref23_find.sum0_ok)) (bySpot (ids := [2000002]) (by kernel_rfl) (by intro q hq; simp only [List.mem_cons, List.not_mem_nil, or_false] at hq; subst hq; first | exact ref23_find.sum2000002_ok)) fun x rs h => by
    obtain ⟨a0, a1, u⟩ := x
    cases u
    simp only [Cmd.val_guard, Cmd.val_ret] at h
    split at h <;> try (cases h; done)
    rename_i hp
    exact (ref23_find.eq a0 a1).trans ((ref23_find.nice a0 a1 hp (fun r0 => some ([⟨Ty.int IntKind.i64, r0⟩] : List DVal))).trans h)

/-! ### ref23_Get -/
def ref23_Get.env : Env := envCons 26 ref23_find.ctr <| envNil
theorem ref23_Get.envOk : EnvOk Tryd.prog ref23_Get.env := envOk_cons ref23_find.known (envOk_nil _)
def ref23_Get.C : Cfg := { rows := [], keep := [], adopt := [] }
def ref23_Get.tree {R : Type} (a0 : List Bool × List Int × List Int × Unit) (a1 : Int) (ret : Int → Bool → Option R) : Option R :=
  bif ref23_find.pre a0 a1 then bif decide ((0 : Int) ≤ ref23_find a0 a1) && decide (ref23_find a0 a1 < (↑(List.length (Prod.fst a0)) : Int)) then bif !List.getD (Prod.fst a0) (Int.toNat (ref23_find a0 a1)) false then ret (0 : Int) false else bif decide ((0 : Int) ≤ ref23_find a0 a1) && decide (ref23_find a0 a1 < (↑(List.length (Prod.fst (Prod.snd (Prod.snd a0)))) : Int)) then ret (List.getD (Prod.fst (Prod.snd (Prod.snd a0))) (Int.toNat (ref23_find a0 a1)) (0 : Int)) true else none else none else none
theorem ref23_Get.eq (a0 : List Bool × List Int × List Int × Unit) (a1 : Int) : body Tryd.prog ref23_Get.C ref23_Get.env noL Tryd.f15 [⟨Ty.pt Tf23, a0⟩, ⟨Ty.int IntKind.u32, a1⟩] = ref23_Get.tree a0 a1 (fun r0 r1 => some ([⟨Ty.int IntKind.i64, r0⟩, ⟨Ty.bool, r1⟩] : List DVal)) := by kernel_rfl
def ref23_Get.opt (a0 : List Bool × List Int × List Int × Unit) (a1 : Int) : Option (Int × Bool) := ref23_Get.tree a0 a1 (fun r0 r1 => some (r0, r1))
theorem ref23_Get.nat {R : Type} (a0 : List Bool × List Int × List Int × Unit) (a1 : Int) (ret : Int → Bool → Option R) : ref23_Get.tree a0 a1 ret = (ref23_Get.opt a0 a1).bind (fun x => ret x.1 x.2) := by
  unfold ref23_Get.opt ref23_Get.tree
  repeat (first | with_reducible exact nat_none _ | with_reducible refine nat_cond ?_ ?_ | with_reducible refine nat_ite ?_ ?_ | (with_reducible refine nat_leaf ?_; rfl))
def ref23_Get.pre (a0 : List Bool × List Int × List Int × Unit) (a1 : Int) : Bool := (ref23_Get.opt a0 a1).isSome
def ref23_Get (a0 : List Bool × List Int × List Int × Unit) (a1 : Int) : Int × Bool := (ref23_Get.opt a0 a1).getD default
theorem ref23_Get.of_opt (a0 : List Bool × List Int × List Int × Unit) (a1 : Int) {x : Int × Bool} (h : ref23_Get.opt a0 a1 = some x) : ref23_Get.pre a0 a1 = true ∧ ref23_Get a0 a1 = x := by
  unfold ref23_Get.pre ref23_Get
  rw [h]
  exact ⟨rfl, rfl⟩
theorem ref23_Get.nice {R : Type} (a0 : List Bool × List Int × List Int × Unit) (a1 : Int) (hp : ref23_Get.pre a0 a1 = true) (ret : Int → Bool → Option R) : ref23_Get.tree a0 a1 ret = ret (ref23_Get a0 a1).1 (ref23_Get a0 a1).2 := by
  rw [ref23_Get.nat]
  cases h : ref23_Get.opt a0 a1 with
  | none => rw [ref23_Get.pre, h] at hp; cases hp
  | some x => rw [(ref23_Get.of_opt a0 a1 h).2]; rfl
def ref23_Get.ctr : Ctr := ctrOf [Ty.pt Tf23, Ty.int IntKind.u32] fun x => .guard (ref23_Get.pre (x.1) (x.2.1)) (.ret [⟨Ty.int IntKind.i64, (ref23_Get (x.1) (x.2.1)).1⟩, ⟨Ty.bool, (ref23_Get (x.1) (x.2.1)).2⟩])
theorem ref23_Get.known : Known Tryd.prog 15 ref23_Get.ctr :=
  known_plain ref23_Get.envOk mixed Tryd.func15 (by kernel_rfl) (by kernel_rfl) (noLoops (by kernel_rfl)) (noSpots (by kernel_rfl)) fun x rs h => by
    obtain ⟨a0, a1, u⟩ := x
    cases u
    simp only [Cmd.val_guard, Cmd.val_ret] at h
    split at h <;> try (cases h; done)
    rename_i hp
    exact (ref23_Get.eq a0 a1).trans ((ref23_Get.nice a0 a1 hp (fun r0 r1 => some ([⟨Ty.int IntKind.i64, r0⟩, ⟨Ty.bool, r1⟩] : List DVal))).trans h)

/-! ### ref23_Put -/
def ref23_Put.env : Env := envCons 26 ref23_find.ctr <| envCons 17 ref23_Len.ctr <| envNil
theorem ref23_Put.envOk : EnvOk Tryd.prog ref23_Put.env := envOk_cons ref23_find.known (envOk_cons ref23_Len.known (envOk_nil _))
def ref23_Put.T2000002 : Tm := ⟨fill 0 50 [(0, Sl.ref (4000000 : Nat)), (1, Sl.data (Ty.int IntKind.u32)), (2, Sl.data (Ty.int IntKind.i64)), (7, Sl.data (Ty.int IntKind.i64))], [{ k := (4000000 : Nat), t := Ty.box Tb23, vir := true }]⟩
def ref23_Put.X2000002_normal : Tm := ⟨fill 0 50 [(0, Sl.ref (4000000 : Nat)), (1, Sl.data (Ty.int IntKind.u32)), (2, Sl.data (Ty.int IntKind.i64)), (7, Sl.data (Ty.int IntKind.i64)), (29, Sl.data Ty.bool)], [{ k := (4000000 : Nat), t := Ty.box Tb23, vir := true }]⟩
def ref23_Put.o2000002 {R : Type} (v0 : Int) (v1 : Int) (v2 : Int) (v3 : List Bool × List Int × List Int × Unit) (knormal : Int → Int → Int → Bool → (List Bool × List Int × List Int × Unit) → Option R) : Option R :=
  bif decide ((0 : Int) ≤ v2) && decide (v2 < (↑(List.length (Prod.fst v3)) : Int)) then bif !List.getD (Prod.fst v3) (Int.toNat v2) false then bif ref23_Len.pre (Prod.fst v3, Prod.fst (Prod.snd v3), Prod.fst (Prod.snd (Prod.snd v3)), Prod.snd (Prod.snd (Prod.snd v3))) then knormal v0 v1 v2 (ref23_Len (Prod.fst v3, Prod.fst (Prod.snd v3), Prod.fst (Prod.snd (Prod.snd v3)), Prod.snd (Prod.snd (Prod.snd v3))) == IntKind.wrap IntKind.i64 (↑(List.length (Prod.fst (Prod.snd (Prod.snd v3)))) - (1 : Int))) v3 else none else knormal v0 v1 v2 false v3 else none
def ref23_Put.s2000002 {R : Type} (v0 : Int) (v1 : Int) (v2 : Int) (v3 : List Bool × List Int × List Int × Unit) (knormal : Int → Int → Int → Bool → (List Bool × List Int × List Int × Unit) → Option R) : Option R :=
  bif decide ((0 : Int) ≤ v2) && decide (v2 < (↑(List.length (Prod.fst v3)) : Int)) then bif !!List.getD (Prod.fst v3) (Int.toNat v2) false || ref23_Len.pre (Prod.fst v3, Prod.fst (Prod.snd v3), Prod.fst (Prod.snd (Prod.snd v3)), Prod.snd (Prod.snd (Prod.snd v3))) then knormal v0 v1 v2 (!List.getD (Prod.fst v3) (Int.toNat v2) false && ref23_Len (Prod.fst v3, Prod.fst (Prod.snd v3), Prod.fst (Prod.snd (Prod.snd v3)), Prod.snd (Prod.snd (Prod.snd v3))) == IntKind.wrap IntKind.i64 (↑(List.length (Prod.fst (Prod.snd (Prod.snd v3)))) - (1 : Int))) v3 else none else none
theorem ref23_Put.s2000002_eq {R : Type} (v0 : Int) (v1 : Int) (v2 : Int) (v3 : List Bool × List Int × List Int × Unit) (knormal : Int → Int → Int → Bool → (List Bool × List Int × List Int × Unit) → Option R) : ref23_Put.s2000002 v0 v1 v2 v3 knormal = ref23_Put.o2000002 v0 v1 v2 v3 knormal := by
  unfold ref23_Put.s2000002 ref23_Put.o2000002
  (cases hc : decide ((0 : Int) ≤ v2) && decide (v2 < (↑(List.length (Prod.fst v3)) : Int)) with | false => (first | rfl | simp_all) | true => (cases hc : !List.getD (Prod.fst v3) (Int.toNat v2) false with | false => (first | rfl | simp_all) | true => (cases hc : ref23_Len.pre (Prod.fst v3, Prod.fst (Prod.snd v3), Prod.fst (Prod.snd (Prod.snd v3)), Prod.snd (Prod.snd (Prod.snd v3))) with | false => (first | rfl | simp_all) | true => (first | rfl | simp_all))))
def ref23_Put.C : Cfg := { rows := [], keep := [(2000002, [0, 1, 2, 7], [4000000]), (12000002, [0, 1, 2, 7, 29], [4000000])], adopt := [] }
def ref23_Put.sum2000002 : FrV ref23_Put.T2000002.fr × StV ref23_Put.T2000002.st → (Ex → S → Option (List DVal)) → Option (List DVal) := fun ((v0, v1, v2, ()), (v3, ())) K => ref23_Put.s2000002 v0 v1 v2 v3 (fun e0 e1 e2 e3 e4 => K .normal (pack ref23_Put.X2000002_normal ((e0, e1, e2, e3, ()), (e4, ()))))
def ref23_Put.L : Nat → Option Sum := fun i => if i = 2000002 then some (sumOf ref23_Put.T2000002 ref23_Put.sum2000002) else none
theorem ref23_Put.x2000002 : ∀ v (K : Ex → S → Option (List DVal)), exec1 Tryd.prog ref23_Put.C ref23_Put.env ref23_Put.L (spotOf Tryd.f11 2000002).2.1 (spotOf Tryd.f11 2000002).2.2 (pack ref23_Put.T2000002 v) (fun e s' => K e (trim ref23_Put.C (2000002 + 10000000) s')) = (fun (((v0, v1, v2, ()), (v3, ())) : FrV ref23_Put.T2000002.fr × StV ref23_Put.T2000002.st) => ref23_Put.o2000002 v0 v1 v2 v3 (fun e0 e1 e2 e3 e4 => K .normal (pack ref23_Put.X2000002_normal ((e0, e1, e2, e3, ()), (e4, ()))))) v :=
  fun ((v0, v1, v2, ()), (v3, ())) K => by kernel_rfl
theorem ref23_Put.sum2000002_ok : SpotOk Tryd.prog ref23_Put.C ref23_Put.env ref23_Put.L (spotOf Tryd.f11 2000002) := spotOk_of (T := ref23_Put.T2000002) (q := 2000002) (f := ref23_Put.sum2000002) (by kernel_rfl) (by kernel_rfl) fun ((v0, v1, v2, ()), (v3, ())) K r h => (ref23_Put.x2000002 _ K).trans ((ref23_Put.s2000002_eq v0 v1 v2 v3 (fun e0 e1 e2 e3 e4 => K .normal (pack ref23_Put.X2000002_normal ((e0, e1, e2, e3, ()), (e4, ()))))).symm.trans h)
def ref23_Put.tree {R : Type} (a0 : List Bool × List Int × List Int × Unit) (a1 : Int) (a2 : Int) (ret : (List Bool × List Int × List Int × Unit) → Bool → Option R) : Option R :=
  bif ref23_find.pre (Prod.fst a0, Prod.fst (Prod.snd a0), Prod.fst (Prod.snd (Prod.snd a0)), Prod.snd (Prod.snd (Prod.snd a0))) a1 then bif decide ((0 : Int) ≤ ref23_find (Prod.fst a0, Prod.fst (Prod.snd a0), Prod.fst (Prod.snd (Prod.snd a0)), Prod.snd (Prod.snd (Prod.snd a0))) a1) && decide (ref23_find (Prod.fst a0, Prod.fst (Prod.snd a0), Prod.fst (Prod.snd (Prod.snd a0)), Prod.snd (Prod.snd (Prod.snd a0))) a1 < (↑(List.length (Prod.fst a0)) : Int)) then bif !!List.getD (Prod.fst a0) (Int.toNat (ref23_find (Prod.fst a0, Prod.fst (Prod.snd a0), Prod.fst (Prod.snd (Prod.snd a0)), Prod.snd (Prod.snd (Prod.snd a0))) a1)) false || ref23_Len.pre (Prod.fst a0, Prod.fst (Prod.snd a0), Prod.fst (Prod.snd (Prod.snd a0)), Prod.snd (Prod.snd (Prod.snd a0))) then bif !List.getD (Prod.fst a0) (Int.toNat (ref23_find (Prod.fst a0, Prod.fst (Prod.snd a0), Prod.fst (Prod.snd (Prod.snd a0)), Prod.snd (Prod.snd (Prod.snd a0))) a1)) false && ref23_Len (Prod.fst a0, Prod.fst (Prod.snd a0), Prod.fst (Prod.snd (Prod.snd a0)), Prod.snd (Prod.snd (Prod.snd a0))) == IntKind.wrap IntKind.i64 (↑(List.length (Prod.fst (Prod.snd (Prod.snd a0)))) - (1 : Int)) then ret a0 false else bif decide ((0 : Int) ≤ ref23_find (Prod.fst a0, Prod.fst (Prod.snd a0), Prod.fst (Prod.snd (Prod.snd a0)), Prod.snd (Prod.snd (Prod.snd a0))) a1) && decide (ref23_find (Prod.fst a0, Prod.fst (Prod.snd a0), Prod.fst (Prod.snd (Prod.snd a0)), Prod.snd (Prod.snd (Prod.snd a0))) a1 < (↑(List.length (Prod.fst a0)) : Int)) then bif decide ((0 : Int) ≤ ref23_find (Prod.fst a0, Prod.fst (Prod.snd a0), Prod.fst (Prod.snd (Prod.snd a0)), Prod.snd (Prod.snd (Prod.snd a0))) a1) && decide (ref23_find (Prod.fst a0, Prod.fst (Prod.snd a0), Prod.fst (Prod.snd (Prod.snd a0)), Prod.snd (Prod.snd (Prod.snd a0))) a1 < (↑(List.length (Prod.fst (Prod.snd a0))) : Int)) then bif decide ((0 : Int) ≤ ref23_find (Prod.fst a0, Prod.fst (Prod.snd a0), Prod.fst (Prod.snd (Prod.snd a0)), Prod.snd (Prod.snd (Prod.snd a0))) a1) && decide (ref23_find (Prod.fst a0, Prod.fst (Prod.snd a0), Prod.fst (Prod.snd (Prod.snd a0)), Prod.snd (Prod.snd (Prod.snd a0))) a1 < (↑(List.length (Prod.fst (Prod.snd (Prod.snd a0)))) : Int)) then ret (List.set (Prod.fst a0) (Int.toNat (ref23_find (Prod.fst a0, Prod.fst (Prod.snd a0), Prod.fst (Prod.snd (Prod.snd a0)), Prod.snd (Prod.snd (Prod.snd a0))) a1)) true, List.set (Prod.fst (Prod.snd a0)) (Int.toNat (ref23_find (Prod.fst a0, Prod.fst (Prod.snd a0), Prod.fst (Prod.snd (Prod.snd a0)), Prod.snd (Prod.snd (Prod.snd a0))) a1)) a1, List.set (Prod.fst (Prod.snd (Prod.snd a0))) (Int.toNat (ref23_find (Prod.fst a0, Prod.fst (Prod.snd a0), Prod.fst (Prod.snd (Prod.snd a0)), Prod.snd (Prod.snd (Prod.snd a0))) a1)) a2, ()) true else none else none else none else none else none else none
theorem ref23_Put.eq (a0 : List Bool × List Int × List Int × Unit) (a1 : Int) (a2 : Int) : body Tryd.prog ref23_Put.C ref23_Put.env ref23_Put.L Tryd.f11 [⟨Ty.box Tb23, a0⟩, ⟨Ty.int IntKind.u32, a1⟩, ⟨Ty.int IntKind.i64, a2⟩] = ref23_Put.tree a0 a1 a2 (fun r0 r1 => some ([⟨Ty.box Tb23, r0⟩, ⟨Ty.bool, r1⟩] : List DVal)) := by kernel_rfl
def ref23_Put.opt (a0 : List Bool × List Int × List Int × Unit) (a1 : Int) (a2 : Int) : Option ((List Bool × List Int × List Int × Unit) × Bool) := ref23_Put.tree a0 a1 a2 (fun r0 r1 => some (r0, r1))
theorem ref23_Put.nat {R : Type} (a0 : List Bool × List Int × List Int × Unit) (a1 : Int) (a2 : Int) (ret : (List Bool × List Int × List Int × Unit) → Bool → Option R) : ref23_Put.tree a0 a1 a2 ret = (ref23_Put.opt a0 a1 a2).bind (fun x => ret x.1 x.2) := by
  unfold ref23_Put.opt ref23_Put.tree
  repeat (first | unfold ref23_Put.s2000002)
  repeat (first | with_reducible exact nat_none _ | with_reducible refine nat_cond ?_ ?_ | with_reducible refine nat_ite ?_ ?_ | (with_reducible refine nat_leaf ?_; rfl))
def ref23_Put.pre (a0 : List Bool × List Int × List Int × Unit) (a1 : Int) (a2 : Int) : Bool := (ref23_Put.opt a0 a1 a2).isSome
def ref23_Put (a0 : List Bool × List Int × List Int × Unit) (a1 : Int) (a2 : Int) : (List Bool × List Int × List Int × Unit) × Bool := (ref23_Put.opt a0 a1 a2).getD default
theorem ref23_Put.of_opt (a0 : List Bool × List Int × List Int × Unit) (a1 : Int) (a2 : Int) {x : (List Bool × List Int × List Int × Unit) × Bool} (h : ref23_Put.opt a0 a1 a2 = some x) : ref23_Put.pre a0 a1 a2 = true ∧ ref23_Put a0 a1 a2 = x := by
  unfold ref23_Put.pre ref23_Put
  rw [h]
  exact ⟨rfl, rfl⟩
theorem ref23_Put.nice {R : Type} (a0 : List Bool × List Int × List Int × Unit) (a1 : Int) (a2 : Int) (hp : ref23_Put.pre a0 a1 a2 = true) (ret : (List Bool × List Int × List Int × Unit) → Bool → Option R) : ref23_Put.tree a0 a1 a2 ret = ret (ref23_Put a0 a1 a2).1 (ref23_Put a0 a1 a2).2 := by
  rw [ref23_Put.nat]
  cases h : ref23_Put.opt a0 a1 a2 with
  | none => rw [ref23_Put.pre, h] at hp; cases hp
  | some x => rw [(ref23_Put.of_opt a0 a1 a2 h).2]; rfl
def ref23_Put.ctr : Ctr := ctrOf [Ty.box Tb23, Ty.int IntKind.u32, Ty.int IntKind.i64] fun x => .guard (ref23_Put.pre (x.1) (x.2.1) (x.2.2.1)) (.ret [⟨Ty.box Tb23, (ref23_Put (x.1) (x.2.1) (x.2.2.1)).1⟩, ⟨Ty.bool, (ref23_Put (x.1) (x.2.1) (x.2.2.1)).2⟩])
theorem ref23_Put.known : Known Tryd.prog 11 ref23_Put.ctr :=
  known_plain ref23_Put.envOk mixed Tryd.func11 (by kernel_rfl) (by kernel_rfl) (noLoops (by kernel_rfl)) (bySpot (ids := [2000002]) (by kernel_rfl) (by intro q hq; simp only [List.mem_cons, List.not_mem_nil, or_false] at hq; subst hq; first | exact ref23_Put.sum2000002_ok)) fun x rs h => by
    obtain ⟨a0, a1, a2, u⟩ := x
    cases u
    simp only [Cmd.val_guard, Cmd.val_ret] at h
    split at h <;> try (cases h; done)
    rename_i hp
    exact (ref23_Put.eq a0 a1 a2).trans ((ref23_Put.nice a0 a1 a2 hp (fun r0 r1 => some ([⟨Ty.box Tb23, r0⟩, ⟨Ty.bool, r1⟩] : List DVal))).trans h)

/-! ### ref23_NewTable -/
def ref23_NewTable.env : Env := envCons 23 ref23_Size.ctr <| envNil
theorem ref23_NewTable.envOk : EnvOk Tryd.prog ref23_NewTable.env := envOk_cons ref23_Size.known (envOk_nil _)
def ref23_NewTable.C : Cfg := { rows := [], keep := [], adopt := [], owns := [(12, Tb23)] }
def ref23_NewTable.tree {R : Type} (a0 : Int) (ret : (List Bool × List Int × List Int × Unit) → Option R) : Option R :=
  bif decide ((0 : Int) ≤ ref23_Size a0) && decide (ref23_Size a0 ≤ ref23_Size a0) && decide (ref23_Size a0 ≤ (9223372036854775807 : Int)) && decide (ref23_Size a0 * (1 : Int) ≤ (140737488355328 : Int)) then bif decide ((0 : Int) ≤ ref23_Size a0) && decide (ref23_Size a0 ≤ ref23_Size a0) && decide (ref23_Size a0 ≤ (9223372036854775807 : Int)) && decide (ref23_Size a0 * (4 : Int) ≤ (140737488355328 : Int)) then bif decide ((0 : Int) ≤ ref23_Size a0) && decide (ref23_Size a0 ≤ ref23_Size a0) && decide (ref23_Size a0 ≤ (9223372036854775807 : Int)) && decide (ref23_Size a0 * (8 : Int) ≤ (140737488355328 : Int)) then ret (List.replicate (Int.toNat (ref23_Size a0)) false, List.replicate (Int.toNat (ref23_Size a0)) (0 : Int), List.replicate (Int.toNat (ref23_Size a0)) (0 : Int), ()) else none else none else none
theorem ref23_NewTable.eq (a0 : Int) : body Tryd.prog ref23_NewTable.C ref23_NewTable.env noL Tryd.f9 [⟨Ty.int IntKind.i64, a0⟩] = ref23_NewTable.tree a0 (fun r0 => some ([⟨Ty.box Tb23, r0⟩] : List DVal)) := by kernel_rfl
def ref23_NewTable.opt (a0 : Int) : Option ((List Bool × List Int × List Int × Unit)) := ref23_NewTable.tree a0 (fun r0 => some (r0))
theorem ref23_NewTable.nat {R : Type} (a0 : Int) (ret : (List Bool × List Int × List Int × Unit) → Option R) : ref23_NewTable.tree a0 ret = (ref23_NewTable.opt a0).bind (fun x => ret x) := by
  unfold ref23_NewTable.opt ref23_NewTable.tree
  repeat (first | with_reducible exact nat_none _ | with_reducible refine nat_cond ?_ ?_ | with_reducible refine nat_ite ?_ ?_ | (with_reducible refine nat_leaf ?_; rfl))
def ref23_NewTable.pre (a0 : Int) : Bool := (ref23_NewTable.opt a0).isSome
def ref23_NewTable (a0 : Int) : (List Bool × List Int × List Int × Unit) := (ref23_NewTable.opt a0).getD default
theorem ref23_NewTable.of_opt (a0 : Int) {x : (List Bool × List Int × List Int × Unit)} (h : ref23_NewTable.opt a0 = some x) : ref23_NewTable.pre a0 = true ∧ ref23_NewTable a0 = x := by
  unfold ref23_NewTable.pre ref23_NewTable
  rw [h]
  exact ⟨rfl, rfl⟩
theorem ref23_NewTable.nice {R : Type} (a0 : Int) (hp : ref23_NewTable.pre a0 = true) (ret : (List Bool × List Int × List Int × Unit) → Option R) : ref23_NewTable.tree a0 ret = ret (ref23_NewTable a0) := by
  rw [ref23_NewTable.nat]
  cases h : ref23_NewTable.opt a0 with
  | none => rw [ref23_NewTable.pre, h] at hp; cases hp
  | some x => rw [(ref23_NewTable.of_opt a0 h).2]; rfl
def ref23_NewTable.ctr : Ctr := ctrOf [Ty.int IntKind.i64] fun x => .guard (ref23_NewTable.pre (x.1)) (.ret [⟨Ty.box Tb23, ref23_NewTable (x.1)⟩])
theorem ref23_NewTable.known : Known Tryd.prog 9 ref23_NewTable.ctr :=
  known_plain ref23_NewTable.envOk mixed Tryd.func9 (by kernel_rfl) (by kernel_rfl) (noLoops (by kernel_rfl)) (noSpots (by kernel_rfl)) fun x rs h => by
    obtain ⟨a0, u⟩ := x
    cases u
    simp only [Cmd.val_guard, Cmd.val_ret] at h
    split at h <;> try (cases h; done)
    rename_i hp
    exact (ref23_NewTable.eq a0).trans ((ref23_NewTable.nice a0 hp (fun r0 => some ([⟨Ty.box Tb23, r0⟩] : List DVal))).trans h)

/-! ### ref23_Places -/
def ref23_Places.env : Env := envNil
theorem ref23_Places.envOk : EnvOk Tryd.prog ref23_Places.env := envOk_nil _
def ref23_Places.T3000007 : Tm := ⟨fill 0 34 [(0, Sl.rop Tf23), (3, Sl.ref (1003 : Nat)), (4, Sl.data (Ty.int IntKind.i64)), (5, Sl.data (Ty.int IntKind.i64)), (21, Sl.data Ty.bool)], [{ k := (1003 : Nat), t := Toi, vir := true }]⟩
def ref23_Places.X3000007_normal : Tm := ⟨fill 0 34 [(0, Sl.rop Tf23), (3, Sl.ref (1003 : Nat)), (4, Sl.data (Ty.int IntKind.i64)), (5, Sl.data (Ty.int IntKind.i64))], [{ k := (1003 : Nat), t := Toi, vir := true }]⟩
def ref23_Places.o3000007 {R : Type} (v0 : List Bool × List Int × List Int × Unit) (v1 : Int) (v2 : Int) (v3 : Bool) (v4 : List Int) (knormal : (List Bool × List Int × List Int × Unit) → Int → Int → (List Int) → Option R) : Option R :=
  bif v3 then bif decide ((0 : Int) ≤ v1) && decide (v1 < (↑(List.length (Prod.fst (Prod.snd (Prod.snd v0)))) : Int)) then knormal v0 v1 (List.getD (Prod.fst (Prod.snd (Prod.snd v0))) (Int.toNat v1) (0 : Int)) v4 else none else knormal v0 v1 v2 v4
def ref23_Places.s3000007 {R : Type} (v0 : List Bool × List Int × List Int × Unit) (v1 : Int) (v2 : Int) (v3 : Bool) (v4 : List Int) (knormal : (List Bool × List Int × List Int × Unit) → Int → Int → (List Int) → Option R) : Option R :=
  bif !v3 || decide ((0 : Int) ≤ v1) && decide (v1 < (↑(List.length (Prod.fst (Prod.snd (Prod.snd v0)))) : Int)) then knormal v0 v1 (bif v3 then List.getD (Prod.fst (Prod.snd (Prod.snd v0))) (Int.toNat v1) (0 : Int) else v2) v4 else none
theorem ref23_Places.s3000007_eq {R : Type} (v0 : List Bool × List Int × List Int × Unit) (v1 : Int) (v2 : Int) (v3 : Bool) (v4 : List Int) (knormal : (List Bool × List Int × List Int × Unit) → Int → Int → (List Int) → Option R) : ref23_Places.s3000007 v0 v1 v2 v3 v4 knormal = ref23_Places.o3000007 v0 v1 v2 v3 v4 knormal := by
  unfold ref23_Places.s3000007 ref23_Places.o3000007
  (cases hc : v3 with | false => (first | rfl | simp_all) | true => (cases hc : decide ((0 : Int) ≤ v1) && decide (v1 < (↑(List.length (Prod.fst (Prod.snd (Prod.snd v0)))) : Int)) with | false => (first | rfl | simp_all) | true => (first | rfl | simp_all)))
def ref23_Places.T0 : Tm := ⟨fill 0 34 [(0, Sl.rop Tf23), (3, Sl.ref (1003 : Nat)), (4, Sl.data (Ty.int IntKind.i64))], [{ k := (1003 : Nat), t := Toi, vir := true }]⟩
def ref23_Places.X0_exit0 : Tm := ⟨fill 0 34 [(3, Sl.ref (1003 : Nat))], [{ k := (1003 : Nat), t := Toi, vir := true }]⟩
def ref23_Places.round0 {R : Type} (v0 : List Bool × List Int × List Int × Unit) (v1 : Int) (v2 : List Int) (next : (List Bool × List Int × List Int × Unit) → Int → (List Int) → Option R) (kexit0 : (List Int) → Option R) : Option R :=
  bif decide (v1 < (↑(List.length (Prod.fst (Prod.snd (Prod.snd v0)))) : Int)) then bif decide ((0 : Int) ≤ v1) && decide (v1 < (↑(List.length (Prod.fst v0)) : Int)) then bif !List.getD (Prod.fst v0) (Int.toNat v1) false || decide ((0 : Int) ≤ v1) && decide (v1 < (↑(List.length (Prod.fst (Prod.snd (Prod.snd v0)))) : Int)) then bif roomOk (List.length v2 + (1 : Nat)) (8 : Nat) then next v0 (IntKind.wrap IntKind.i64 (v1 + (1 : Int))) (v2 ++ [bif List.getD (Prod.fst v0) (Int.toNat v1) false then List.getD (Prod.fst (Prod.snd (Prod.snd v0))) (Int.toNat v1) (0 : Int) else (-1 : Int)]) else none else none else none else kexit0 v2
def ref23_Places.R0 {R : Type} (kexit0 : (List Int) → Option R) : ((List Bool × List Int × List Int × Unit) × Int × (List Int)) → (((List Bool × List Int × List Int × Unit) × Int × (List Int)) → Option R) → Option R := fun (v0, v1, v2) next => ref23_Places.round0 v0 v1 v2 (fun w0 w1 w2 => next (w0, w1, w2)) kexit0
theorem ref23_Places.R0_eq {R : Type} (kexit0 : (List Int) → Option R) (v0 : List Bool × List Int × List Int × Unit) (v1 : Int) (v2 : List Int) (next : ((List Bool × List Int × List Int × Unit) × Int × (List Int)) → Option R) : ref23_Places.R0 kexit0 (v0, v1, v2) next = ref23_Places.round0 v0 v1 v2 (fun w0 w1 w2 => next (w0, w1, w2)) kexit0 := rfl
def ref23_Places.loop0 {R : Type} (v0 : List Bool × List Int × List Int × Unit) (v1 : Int) (v2 : List Int) (kexit0 : (List Int) → Option R) : Option R := lp (ref23_Places.R0 kexit0) 5000 (v0, v1, v2)
theorem ref23_Places.loop0_ok {R : Type} (v0 : List Bool × List Int × List Int × Unit) (v1 : Int) (v2 : List Int) (kexit0 : (List Int) → Option R) (r : R) (h : ref23_Places.loop0 v0 v1 v2 kexit0 = some r) : ∃ n, lp (ref23_Places.R0 kexit0) n (v0, v1, v2) = some r := ⟨5000, h⟩
theorem ref23_Places.loop0_nat {A B : Type} (v0 : List Bool × List Int × List Int × Unit) (v1 : Int) (v2 : List Int) (kexit0 : (List Int) → Option A) (kexit0' : (List Int) → Option B) (f : A → Option B) (hexit0 : ∀ e0, kexit0' e0 = (kexit0 e0).bind f) : ref23_Places.loop0 v0 v1 v2 kexit0' = (ref23_Places.loop0 v0 v1 v2 kexit0).bind f := by
  unfold ref23_Places.loop0
  refine nat_lp ?_ _ _
  intro v next next' hn
  obtain ⟨v0, v1, v2⟩ := v
  rw [ref23_Places.R0_eq, ref23_Places.R0_eq]
  unfold ref23_Places.round0
  repeat (first | unfold ref23_Places.s3000007)
  repeat (first | with_reducible exact nat_none _ | with_reducible exact hn _ | with_reducible exact hexit0 _ | with_reducible refine nat_cond ?_ ?_ | with_reducible refine nat_ite ?_ ?_)
def ref23_Places.C : Cfg := { rows := [], keep := [(0, [0, 3, 4], [1003]), (1000000, [2, 3], [1003]), (3000007, [0, 3, 4, 5, 21], [1003]), (13000007, [0, 3, 4, 5], [1003])], adopt := [(0, 3, 1003, Ty.int IntKind.i64)], ownR := true }
def ref23_Places.sum3000007 : FrV ref23_Places.T3000007.fr × StV ref23_Places.T3000007.st → (Ex → S → Option (List DVal)) → Option (List DVal) := fun ((v0, v1, v2, v3, ()), (v4, ())) K => ref23_Places.s3000007 v0 v1 v2 v3 v4 (fun e0 e1 e2 e3 => K .normal (pack ref23_Places.X3000007_normal ((e0, e1, e2, ()), (e3, ()))))
def ref23_Places.sum0 : FrV ref23_Places.T0.fr × StV ref23_Places.T0.st → (Ex → S → Option (List DVal)) → Option (List DVal) := fun ((v0, v1, ()), (v2, ())) K => ref23_Places.loop0 v0 v1 v2 (fun e0 => K (.exit 0) (pack ref23_Places.X0_exit0 ((()), (e0, ()))))
def ref23_Places.rnd0 : FrV ref23_Places.T0.fr × StV ref23_Places.T0.st → (FrV ref23_Places.T0.fr × StV ref23_Places.T0.st → Option (List DVal)) → (Ex → S → Option (List DVal)) → Option (List DVal) := fun ((v0, v1, ()), (v2, ())) next K => ref23_Places.round0 v0 v1 v2 (fun w0 w1 w2 => next ((w0, w1, ()), (w2, ()))) (fun e0 => K (.exit 0) (pack ref23_Places.X0_exit0 ((()), (e0, ()))))
def ref23_Places.L : Nat → Option Sum := fun i => if i = 0 then some (sumOf ref23_Places.T0 ref23_Places.sum0) else if i = 3000007 then some (sumOf ref23_Places.T3000007 ref23_Places.sum3000007) else none
theorem ref23_Places.rnd0_eq : ∀ v (r : S → Option (List DVal)) (K : Ex → S → Option (List DVal)), exec Tryd.prog ref23_Places.C ref23_Places.env ref23_Places.L 0 (loopOf Tryd.f20 0) (pack ref23_Places.T0 v) (fun e s' => match e with | .normal => r (trim ref23_Places.C 0 s') | e => K e (trim ref23_Places.C (0 + 1000000) s')) = ref23_Places.rnd0 v (fun v' => r (pack ref23_Places.T0 v')) K :=
  fun ((v0, v1, ()), (v2, ())) r K => by kernel_rfl
theorem ref23_Places.lp0 (K : Ex → S → Option (List DVal)) : ∀ (n : Nat) (v0 : List Bool × List Int × List Int × Unit) (v1 : Int) (v2 : List Int), lp (fun v next => ref23_Places.rnd0 v next K) n ((v0, v1, ()), (v2, ())) = lp (ref23_Places.R0 (fun e0 => K (.exit 0) (pack ref23_Places.X0_exit0 ((()), (e0, ()))))) n (v0, v1, v2) := by
  intro n
  induction n with
  | zero => intros; rfl
  | succ n ih =>
    intro v0 v1 v2
    show ref23_Places.round0 v0 v1 v2 (fun w0 w1 w2 => lp (fun v next => ref23_Places.rnd0 v next K) n ((w0, w1, ()), (w2, ()))) (fun e0 => K (.exit 0) (pack ref23_Places.X0_exit0 ((()), (e0, ())))) = ref23_Places.round0 v0 v1 v2 (fun w0 w1 w2 => lp (ref23_Places.R0 (fun e0 => K (.exit 0) (pack ref23_Places.X0_exit0 ((()), (e0, ()))))) n (w0, w1, w2)) (fun e0 => K (.exit 0) (pack ref23_Places.X0_exit0 ((()), (e0, ()))))
    simp only [ih]
theorem ref23_Places.sum0_ok : SumOk Tryd.prog ref23_Places.C ref23_Places.env ref23_Places.L 0 (loopOf Tryd.f20 0) := sumOk_lp (T := ref23_Places.T0) (rnd := ref23_Places.rnd0) (f := ref23_Places.sum0) rfl ref23_Places.rnd0_eq fun ((v0, v1, ()), (v2, ())) K r h => by
  obtain ⟨n, hn⟩ := ref23_Places.loop0_ok v0 v1 v2 (fun e0 => K (.exit 0) (pack ref23_Places.X0_exit0 ((()), (e0, ())))) r h
  exact ⟨n, by rw [ref23_Places.lp0]; exact hn⟩
theorem ref23_Places.x3000007 : ∀ v (K : Ex → S → Option (List DVal)), exec1 Tryd.prog ref23_Places.C ref23_Places.env ref23_Places.L (spotOf Tryd.f20 3000007).2.1 (spotOf Tryd.f20 3000007).2.2 (pack ref23_Places.T3000007 v) (fun e s' => K e (trim ref23_Places.C (3000007 + 10000000) s')) = (fun (((v0, v1, v2, v3, ()), (v4, ())) : FrV ref23_Places.T3000007.fr × StV ref23_Places.T3000007.st) => ref23_Places.o3000007 v0 v1 v2 v3 v4 (fun e0 e1 e2 e3 => K .normal (pack ref23_Places.X3000007_normal ((e0, e1, e2, ()), (e3, ()))))) v :=
  fun ((v0, v1, v2, v3, ()), (v4, ())) K => by kernel_rfl
theorem ref23_Places.sum3000007_ok : SpotOk Tryd.prog ref23_Places.C ref23_Places.env ref23_Places.L (spotOf Tryd.f20 3000007) := spotOk_of (T := ref23_Places.T3000007) (q := 3000007) (f := ref23_Places.sum3000007) (by kernel_rfl) (by kernel_rfl) fun ((v0, v1, v2, v3, ()), (v4, ())) K r h => (ref23_Places.x3000007 _ K).trans ((ref23_Places.s3000007_eq v0 v1 v2 v3 v4 (fun e0 e1 e2 e3 => K .normal (pack ref23_Places.X3000007_normal ((e0, e1, e2, ()), (e3, ()))))).symm.trans h)
def ref23_Places.tree {R : Type} (a0 : List Bool × List Int × List Int × Unit) (ret : (List Int) → Option R) : Option R :=
  ref23_Places.loop0 a0 (0 : Int) (nilOf Int) fun e0 => ret e0
theorem ref23_Places.eq (a0 : List Bool × List Int × List Int × Unit) : body Tryd.prog ref23_Places.C ref23_Places.env ref23_Places.L Tryd.f20 [⟨Ty.pt Tf23, a0⟩] = ref23_Places.tree a0 (fun r0 => some ([⟨Toi, r0⟩] : List DVal)) := by kernel_rfl
def ref23_Places.opt (a0 : List Bool × List Int × List Int × Unit) : Option ((List Int)) := ref23_Places.tree a0 (fun r0 => some (r0))
theorem ref23_Places.nat {R : Type} (a0 : List Bool × List Int × List Int × Unit) (ret : (List Int) → Option R) : ref23_Places.tree a0 ret = (ref23_Places.opt a0).bind (fun x => ret x) := by
  unfold ref23_Places.opt ref23_Places.tree
  repeat (first | unfold ref23_Places.s3000007)
  repeat (first | with_reducible exact nat_none _ | with_reducible refine nat_cond ?_ ?_ | with_reducible refine nat_ite ?_ ?_ | (with_reducible refine ref23_Places.loop0_nat _ _ _ _ _ _ ?_ <;> intros) | (with_reducible refine nat_leaf ?_; rfl))
def ref23_Places.pre (a0 : List Bool × List Int × List Int × Unit) : Bool := (ref23_Places.opt a0).isSome
def ref23_Places (a0 : List Bool × List Int × List Int × Unit) : (List Int) := (ref23_Places.opt a0).getD default
theorem ref23_Places.of_opt (a0 : List Bool × List Int × List Int × Unit) {x : (List Int)} (h : ref23_Places.opt a0 = some x) : ref23_Places.pre a0 = true ∧ ref23_Places a0 = x := by
  unfold ref23_Places.pre ref23_Places
  rw [h]
  exact ⟨rfl, rfl⟩
theorem ref23_Places.nice {R : Type} (a0 : List Bool × List Int × List Int × Unit) (hp : ref23_Places.pre a0 = true) (ret : (List Int) → Option R) : ref23_Places.tree a0 ret = ret (ref23_Places a0) := by
  rw [ref23_Places.nat]
  cases h : ref23_Places.opt a0 with
  | none => rw [ref23_Places.pre, h] at hp; cases hp
  | some x => rw [(ref23_Places.of_opt a0 h).2]; rfl
def ref23_Places.ctr : Ctr := ctrOf [Ty.pt Tf23] fun x => .guard (ref23_Places.pre (x.1)) (.ret [⟨Toi, ref23_Places (x.1)⟩])
theorem ref23_Places.known : Known Tryd.prog 20 ref23_Places.ctr :=
  known_plain ref23_Places.envOk mixed Tryd.func20 (by kernel_rfl) (by kernel_rfl) (byId (by kernel_rfl : loopIds Tryd.f20 = [0]) (by intro q hq; simp only [List.mem_cons, List.not_mem_nil, or_false] at hq; subst hq; first | exact ref23_Places.sum0_ok)) (bySpot (ids := [3000007]) (by kernel_rfl) (by intro q hq; simp only [List.mem_cons, List.not_mem_nil, or_false] at hq; subst hq; first | exact ref23_Places.sum3000007_ok)) fun x rs h => by
    obtain ⟨a0, u⟩ := x
    cases u
    simp only [Cmd.val_guard, Cmd.val_ret] at h
    split at h <;> try (cases h; done)
    rename_i hp
    exact (ref23_Places.eq a0).trans ((ref23_Places.nice a0 hp (fun r0 => some ([⟨Toi, r0⟩] : List DVal))).trans h)

/-! ### table_Len -/
def table_Len.env : Env := envNil
theorem table_Len.envOk : EnvOk Tryd.prog table_Len.env := envOk_nil _
def table_Len.C : Cfg := { rows := [], keep := [], adopt := [] }
def table_Len.tree {R : Type} (a0 : List (Int × Int × Bool × Unit) × Int × Unit) (ret : Int → Option R) : Option R :=
  ret (Prod.fst (Prod.snd a0))
theorem table_Len.eq (a0 : List (Int × Int × Bool × Unit) × Int × Unit) : body Tryd.prog table_Len.C table_Len.env noL Tryd.f16 [⟨Ty.pt (Ty.pair (Ty.sl Te) (Ty.pair (Ty.int IntKind.i64) Ty.unit)), a0⟩] = table_Len.tree a0 (fun r0 => some ([⟨Ty.int IntKind.i64, r0⟩] : List DVal)) := by kernel_rfl
def table_Len (a0 : List (Int × Int × Bool × Unit) × Int × Unit) : Int :=
  Prod.fst (Prod.snd a0)
theorem table_Len.nice {R : Type} (a0 : List (Int × Int × Bool × Unit) × Int × Unit) (ret : Int → Option R) : table_Len.tree a0 ret = ret (table_Len a0) := by
  unfold table_Len.tree table_Len
  simp only [Bool.apply_cond ret]
def table_Len.ctr : Ctr := ctrOf [Ty.pt (Ty.pair (Ty.sl Te) (Ty.pair (Ty.int IntKind.i64) Ty.unit))] fun x => .ret [⟨Ty.int IntKind.i64, table_Len (x.1)⟩]
theorem table_Len.known : Known Tryd.prog 16 table_Len.ctr :=
  known_plain table_Len.envOk mixed Tryd.func16 (by kernel_rfl) (by kernel_rfl) (noLoops (by kernel_rfl)) (noSpots (by kernel_rfl)) fun x rs h => by
    obtain ⟨a0, u⟩ := x
    cases u
    simp only [Cmd.val_ret] at h
    exact (table_Len.eq a0).trans ((table_Len.nice a0 (fun r0 => some ([⟨Ty.int IntKind.i64, r0⟩] : List DVal))).trans h)

/-! ### table_find -/
def table_find.env : Env := envCons 21 table_Home.ctr <| envNil
theorem table_find.envOk : EnvOk Tryd.prog table_find.env := envOk_cons table_Home.known (envOk_nil _)
def table_find.T2000002 : Tm := ⟨fill 0 42 [(0, Sl.rop (Ty.pair (Ty.sl Te) (Ty.pair (Ty.int IntKind.i64) Ty.unit))), (1, Sl.data (Ty.int IntKind.u32)), (5, Sl.data (Ty.int IntKind.i64))], []⟩
def table_find.X2000002_normal : Tm := ⟨fill 0 42 [(0, Sl.rop (Ty.pair (Ty.sl Te) (Ty.pair (Ty.int IntKind.i64) Ty.unit))), (1, Sl.data (Ty.int IntKind.u32)), (5, Sl.data (Ty.int IntKind.i64)), (32, Sl.data Ty.bool)], []⟩
def table_find.o2000002 {R : Type} (v0 : List (Int × Int × Bool × Unit) × Int × Unit) (v1 : Int) (v2 : Int) (knormal : (List (Int × Int × Bool × Unit) × Int × Unit) → Int → Int → Bool → Option R) : Option R :=
  bif decide ((0 : Int) ≤ v2) && decide (v2 < (↑(List.length (Prod.fst v0)) : Int)) then bif Prod.fst (Prod.snd (Prod.snd (List.getD (Prod.fst v0) (Int.toNat v2) (Ty.dflt Te)))) then bif decide ((0 : Int) ≤ v2) && decide (v2 < (↑(List.length (Prod.fst v0)) : Int)) then knormal v0 v1 v2 (Prod.fst (List.getD (Prod.fst v0) (Int.toNat v2) (Ty.dflt Te)) != v1) else none else knormal v0 v1 v2 false else none
def table_find.s2000002 {R : Type} (v0 : List (Int × Int × Bool × Unit) × Int × Unit) (v1 : Int) (v2 : Int) (knormal : (List (Int × Int × Bool × Unit) × Int × Unit) → Int → Int → Bool → Option R) : Option R :=
  bif decide ((0 : Int) ≤ v2) && decide (v2 < (↑(List.length (Prod.fst v0)) : Int)) then bif !Prod.fst (Prod.snd (Prod.snd (List.getD (Prod.fst v0) (Int.toNat v2) (Ty.dflt Te)))) || decide ((0 : Int) ≤ v2) && decide (v2 < (↑(List.length (Prod.fst v0)) : Int)) then knormal v0 v1 v2 (Prod.fst (Prod.snd (Prod.snd (List.getD (Prod.fst v0) (Int.toNat v2) (Ty.dflt Te)))) && Prod.fst (List.getD (Prod.fst v0) (Int.toNat v2) (Ty.dflt Te)) != v1) else none else none
theorem table_find.s2000002_eq {R : Type} (v0 : List (Int × Int × Bool × Unit) × Int × Unit) (v1 : Int) (v2 : Int) (knormal : (List (Int × Int × Bool × Unit) × Int × Unit) → Int → Int → Bool → Option R) : table_find.s2000002 v0 v1 v2 knormal = table_find.o2000002 v0 v1 v2 knormal := by
  unfold table_find.s2000002 table_find.o2000002
  (cases hc : decide ((0 : Int) ≤ v2) && decide (v2 < (↑(List.length (Prod.fst v0)) : Int)) with | false => (first | rfl | simp_all) | true => (cases hc : Prod.fst (Prod.snd (Prod.snd (List.getD (Prod.fst v0) (Int.toNat v2) (Ty.dflt Te)))) with | false => (first | rfl | simp_all) | true => (first | rfl | simp_all)))
def table_find.T0 : Tm := ⟨fill 0 42 [(0, Sl.rop (Ty.pair (Ty.sl Te) (Ty.pair (Ty.int IntKind.i64) Ty.unit))), (1, Sl.data (Ty.int IntKind.u32)), (5, Sl.data (Ty.int IntKind.i64))], []⟩
def table_find.X0_exit0 : Tm := ⟨fill 0 42 [(5, Sl.data (Ty.int IntKind.i64))], []⟩
def table_find.round0 {R : Type} (v0 : List (Int × Int × Bool × Unit) × Int × Unit) (v1 : Int) (v2 : Int) (next : (List (Int × Int × Bool × Unit) × Int × Unit) → Int → Int → Option R) (kexit0 : Int → Option R) : Option R :=
  bif decide ((0 : Int) ≤ v2) && decide (v2 < (↑(List.length (Prod.fst v0)) : Int)) then bif !Prod.fst (Prod.snd (Prod.snd (List.getD (Prod.fst v0) (Int.toNat v2) (Ty.dflt Te)))) || decide ((0 : Int) ≤ v2) && decide (v2 < (↑(List.length (Prod.fst v0)) : Int)) then bif Prod.fst (Prod.snd (Prod.snd (List.getD (Prod.fst v0) (Int.toNat v2) (Ty.dflt Te)))) && Prod.fst (List.getD (Prod.fst v0) (Int.toNat v2) (Ty.dflt Te)) != v1 then bif (↑(List.length (Prod.fst v0)) : Int) != (0 : Int) then next v0 v1 (Int.tmod (IntKind.wrap IntKind.i64 (v2 + (1 : Int))) ↑(List.length (Prod.fst v0))) else none else kexit0 v2 else none else none
def table_find.R0 {R : Type} (kexit0 : Int → Option R) : ((List (Int × Int × Bool × Unit) × Int × Unit) × Int × Int) → (((List (Int × Int × Bool × Unit) × Int × Unit) × Int × Int) → Option R) → Option R := fun (v0, v1, v2) next => table_find.round0 v0 v1 v2 (fun w0 w1 w2 => next (w0, w1, w2)) kexit0
theorem table_find.R0_eq {R : Type} (kexit0 : Int → Option R) (v0 : List (Int × Int × Bool × Unit) × Int × Unit) (v1 : Int) (v2 : Int) (next : ((List (Int × Int × Bool × Unit) × Int × Unit) × Int × Int) → Option R) : table_find.R0 kexit0 (v0, v1, v2) next = table_find.round0 v0 v1 v2 (fun w0 w1 w2 => next (w0, w1, w2)) kexit0 := rfl
def table_find.loop0 {R : Type} (v0 : List (Int × Int × Bool × Unit) × Int × Unit) (v1 : Int) (v2 : Int) (kexit0 : Int → Option R) : Option R := lp (table_find.R0 kexit0) 5000 (v0, v1, v2)
theorem table_find.loop0_ok {R : Type} (v0 : List (Int × Int × Bool × Unit) × Int × Unit) (v1 : Int) (v2 : Int) (kexit0 : Int → Option R) (r : R) (h : table_find.loop0 v0 v1 v2 kexit0 = some r) : ∃ n, lp (table_find.R0 kexit0) n (v0, v1, v2) = some r := ⟨5000, h⟩
theorem table_find.loop0_nat {A B : Type} (v0 : List (Int × Int × Bool × Unit) × Int × Unit) (v1 : Int) (v2 : Int) (kexit0 : Int → Option A) (kexit0' : Int → Option B) (f : A → Option B) (hexit0 : ∀ e0, kexit0' e0 = (kexit0 e0).bind f) : table_find.loop0 v0 v1 v2 kexit0' = (table_find.loop0 v0 v1 v2 kexit0).bind f := by
  unfold table_find.loop0
  refine nat_lp ?_ _ _
  intro v next next' hn
  obtain ⟨v0, v1, v2⟩ := v
  rw [table_find.R0_eq, table_find.R0_eq]
  unfold table_find.round0
  repeat (first | unfold table_find.s2000002)
  repeat (first | with_reducible exact nat_none _ | with_reducible exact hn _ | with_reducible exact hexit0 _ | with_reducible refine nat_cond ?_ ?_ | with_reducible refine nat_ite ?_ ?_)
def table_find.C : Cfg := { rows := [], keep := [(0, [0, 1, 5], []), (1000000, [4, 5], []), (2000002, [0, 1, 5], []), (12000002, [0, 1, 5, 32], [])], adopt := [] }
def table_find.sum2000002 : FrV table_find.T2000002.fr × StV table_find.T2000002.st → (Ex → S → Option (List DVal)) → Option (List DVal) := fun ((v0, v1, v2, ()), (())) K => table_find.s2000002 v0 v1 v2 (fun e0 e1 e2 e3 => K .normal (pack table_find.X2000002_normal ((e0, e1, e2, e3, ()), (()))))
def table_find.sum0 : FrV table_find.T0.fr × StV table_find.T0.st → (Ex → S → Option (List DVal)) → Option (List DVal) := fun ((v0, v1, v2, ()), (())) K => table_find.loop0 v0 v1 v2 (fun e0 => K (.exit 0) (pack table_find.X0_exit0 ((e0, ()), (()))))
def table_find.rnd0 : FrV table_find.T0.fr × StV table_find.T0.st → (FrV table_find.T0.fr × StV table_find.T0.st → Option (List DVal)) → (Ex → S → Option (List DVal)) → Option (List DVal) := fun ((v0, v1, v2, ()), (())) next K => table_find.round0 v0 v1 v2 (fun w0 w1 w2 => next ((w0, w1, w2, ()), (()))) (fun e0 => K (.exit 0) (pack table_find.X0_exit0 ((e0, ()), (()))))
def table_find.L : Nat → Option Sum := fun i => if i = 0 then some (sumOf table_find.T0 table_find.sum0) else if i = 2000002 then some (sumOf table_find.T2000002 table_find.sum2000002) else none
theorem table_find.rnd0_eq : ∀ v (r : S → Option (List DVal)) (K : Ex → S → Option (List DVal)), exec Tryd.prog table_find.C table_find.env table_find.L 0 (loopOf Tryd.f25 0) (pack table_find.T0 v) (fun e s' => match e with | .normal => r (trim table_find.C 0 s') | e => K e (trim table_find.C (0 + 1000000) s')) = table_find.rnd0 v (fun v' => r (pack table_find.T0 v')) K :=
  fun ((v0, v1, v2, ()), (())) r K => by kernel_rfl
theorem table_find.lp0 (K : Ex → S → Option (List DVal)) : ∀ (n : Nat) (v0 : List (Int × Int × Bool × Unit) × Int × Unit) (v1 : Int) (v2 : Int), lp (fun v next => table_find.rnd0 v next K) n ((v0, v1, v2, ()), (())) = lp (table_find.R0 (fun e0 => K (.exit 0) (pack table_find.X0_exit0 ((e0, ()), (()))))) n (v0, v1, v2) := by
  intro n
  induction n with
  | zero => intros; rfl
  | succ n ih =>
    intro v0 v1 v2
    show table_find.round0 v0 v1 v2 (fun w0 w1 w2 => lp (fun v next => table_find.rnd0 v next K) n ((w0, w1, w2, ()), (()))) (fun e0 => K (.exit 0) (pack table_find.X0_exit0 ((e0, ()), (())))) = table_find.round0 v0 v1 v2 (fun w0 w1 w2 => lp (table_find.R0 (fun e0 => K (.exit 0) (pack table_find.X0_exit0 ((e0, ()), (()))))) n (w0, w1, w2)) (fun e0 => K (.exit 0) (pack table_find.X0_exit0 ((e0, ()), (()))))
    simp only [ih]
theorem table_find.sum0_ok : SumOk Tryd.prog table_find.C table_find.env table_find.L 0 (loopOf Tryd.f25 0) := sumOk_lp (T := table_find.T0) (rnd := table_find.rnd0) (f := table_find.sum0) rfl table_find.rnd0_eq fun ((v0, v1, v2, ()), (())) K r h => by
  obtain ⟨n, hn⟩ := table_find.loop0_ok v0 v1 v2 (fun e0 => K (.exit 0) (pack table_find.X0_exit0 ((e0, ()), (())))) r h
  exact ⟨n, by rw [table_find.lp0]; exact hn⟩
theorem table_find.x2000002 : ∀ v (K : Ex → S → Option (List DVal)), exec1 Tryd.prog table_find.C table_find.env table_find.L (spotOf Tryd.f25 2000002).2.1 (spotOf Tryd.f25 2000002).2.2 (pack table_find.T2000002 v) (fun e s' => K e (trim table_find.C (2000002 + 10000000) s')) = (fun (((v0, v1, v2, ()), (())) : FrV table_find.T2000002.fr × StV table_find.T2000002.st) => table_find.o2000002 v0 v1 v2 (fun e0 e1 e2 e3 => K .normal (pack table_find.X2000002_normal ((e0, e1, e2, e3, ()), (()))))) v :=
  fun ((v0, v1, v2, ()), (())) K => by kernel_rfl
theorem table_find.sum2000002_ok : SpotOk Tryd.prog table_find.C table_find.env table_find.L (spotOf Tryd.f25 2000002) := spotOk_of (T := table_find.T2000002) (q := 2000002) (f := table_find.sum2000002) (by kernel_rfl) (by kernel_rfl) fun ((v0, v1, v2, ()), (())) K r h => (table_find.x2000002 _ K).trans ((table_find.s2000002_eq v0 v1 v2 (fun e0 e1 e2 e3 => K .normal (pack table_find.X2000002_normal ((e0, e1, e2, e3, ()), (()))))).symm.trans h)
def table_find.tree {R : Type} (a0 : List (Int × Int × Bool × Unit) × Int × Unit) (a1 : Int) (ret : Int → Option R) : Option R :=
  bif table_Home.pre a1 ↑(List.length (Prod.fst a0)) then table_find.loop0 a0 a1 (table_Home a1 ↑(List.length (Prod.fst a0))) fun e0 => ret e0 else none
theorem table_find.eq (a0 : List (Int × Int × Bool × Unit) × Int × Unit) (a1 : Int) : body Tryd.prog table_find.C table_find.env table_find.L Tryd.f25 [⟨Ty.pt (Ty.pair (Ty.sl Te) (Ty.pair (Ty.int IntKind.i64) Ty.unit)), a0⟩, ⟨Ty.int IntKind.u32, a1⟩] = table_find.tree a0 a1 (fun r0 => some ([⟨Ty.int IntKind.i64, r0⟩] : List DVal)) := by kernel_rfl
def table_find.opt (a0 : List (Int × Int × Bool × Unit) × Int × Unit) (a1 : Int) : Option (Int) := table_find.tree a0 a1 (fun r0 => some (r0))
theorem table_find.nat {R : Type} (a0 : List (Int × Int × Bool × Unit) × Int × Unit) (a1 : Int) (ret : Int → Option R) : table_find.tree a0 a1 ret = (table_find.opt a0 a1).bind (fun x => ret x) := by
  unfold table_find.opt table_find.tree
  repeat (first | unfold table_find.s2000002)
  repeat (first | with_reducible exact nat_none _ | with_reducible refine nat_cond ?_ ?_ | with_reducible refine nat_ite ?_ ?_ | (with_reducible refine table_find.loop0_nat _ _ _ _ _ _ ?_ <;> intros) | (with_reducible refine nat_leaf ?_; rfl))
def table_find.pre (a0 : List (Int × Int × Bool × Unit) × Int × Unit) (a1 : Int) : Bool := (table_find.opt a0 a1).isSome
def table_find (a0 : List (Int × Int × Bool × Unit) × Int × Unit) (a1 : Int) : Int := (table_find.opt a0 a1).getD default
theorem table_find.of_opt (a0 : List (Int × Int × Bool × Unit) × Int × Unit) (a1 : Int) {x : Int} (h : table_find.opt a0 a1 = some x) : table_find.pre a0 a1 = true ∧ table_find a0 a1 = x := by
  unfold table_find.pre table_find
  rw [h]
  exact ⟨rfl, rfl⟩
theorem table_find.nice {R : Type} (a0 : List (Int × Int × Bool × Unit) × Int × Unit) (a1 : Int) (hp : table_find.pre a0 a1 = true) (ret : Int → Option R) : table_find.tree a0 a1 ret = ret (table_find a0 a1) := by
  rw [table_find.nat]
  cases h : table_find.opt a0 a1 with
  | none => rw [table_find.pre, h] at hp; cases hp
  | some x => rw [(table_find.of_opt a0 a1 h).2]; rfl
def table_find.ctr : Ctr := ctrOf [Ty.pt (Ty.pair (Ty.sl Te) (Ty.pair (Ty.int IntKind.i64) Ty.unit)), Ty.int IntKind.u32] fun x => .guard (table_find.pre (x.1) (x.2.1)) (.ret [⟨Ty.int IntKind.i64, table_find (x.1) (x.2.1)⟩])
theorem table_find.known : Known Tryd.prog 25 table_find.ctr :=
  known_plain table_find.envOk mixed Tryd.func25 (by kernel_rfl) (by kernel_rfl) (byId (by kernel_rfl : loopIds Tryd.f25 = [0]) (by intro q hq; simp only [List.mem_cons, List.not_mem_nil, or_false] at hq; subst hq; first | exact table_find.sum0_ok)) (bySpot (ids := [2000002]) (by kernel_rfl) (by intro q hq; simp only [List.mem_cons, List.not_mem_nil, or_false] at hq; subst hq; first | exact table_find.sum2000002_ok)) fun x rs h => by
    obtain ⟨a0, a1, u⟩ := x
    cases u
    simp only [Cmd.val_guard, Cmd.val_ret] at h
    split at h <;> try (cases h; done)
    rename_i hp
    exact (table_find.eq a0 a1).trans ((table_find.nice a0 a1 hp (fun r0 => some ([⟨Ty.int IntKind.i64, r0⟩] : List DVal))).trans h)

/-! ### table_Get -/
def table_Get.env : Env := envCons 25 table_find.ctr <| envNil
theorem table_Get.envOk : EnvOk Tryd.prog table_Get.env := envOk_cons table_find.known (envOk_nil _)
def table_Get.C : Cfg := { rows := [], keep := [], adopt := [] }
def table_Get.tree {R : Type} (a0 : List (Int × Int × Bool × Unit) × Int × Unit) (a1 : Int) (ret : Int → Bool → Option R) : Option R :=
  bif table_find.pre a0 a1 then bif decide ((0 : Int) ≤ table_find a0 a1) && decide (table_find a0 a1 < (↑(List.length (Prod.fst a0)) : Int)) then ret (Prod.fst (Prod.snd (List.getD (Prod.fst a0) (Int.toNat (table_find a0 a1)) (Ty.dflt Te)))) (Prod.fst (Prod.snd (Prod.snd (List.getD (Prod.fst a0) (Int.toNat (table_find a0 a1)) (Ty.dflt Te))))) else none else none
theorem table_Get.eq (a0 : List (Int × Int × Bool × Unit) × Int × Unit) (a1 : Int) : body Tryd.prog table_Get.C table_Get.env noL Tryd.f14 [⟨Ty.pt (Ty.pair (Ty.sl Te) (Ty.pair (Ty.int IntKind.i64) Ty.unit)), a0⟩, ⟨Ty.int IntKind.u32, a1⟩] = table_Get.tree a0 a1 (fun r0 r1 => some ([⟨Ty.int IntKind.i64, r0⟩, ⟨Ty.bool, r1⟩] : List DVal)) := by kernel_rfl
def table_Get.opt (a0 : List (Int × Int × Bool × Unit) × Int × Unit) (a1 : Int) : Option (Int × Bool) := table_Get.tree a0 a1 (fun r0 r1 => some (r0, r1))
theorem table_Get.nat {R : Type} (a0 : List (Int × Int × Bool × Unit) × Int × Unit) (a1 : Int) (ret : Int → Bool → Option R) : table_Get.tree a0 a1 ret = (table_Get.opt a0 a1).bind (fun x => ret x.1 x.2) := by
  unfold table_Get.opt table_Get.tree
  repeat (first | with_reducible exact nat_none _ | with_reducible refine nat_cond ?_ ?_ | with_reducible refine nat_ite ?_ ?_ | (with_reducible refine nat_leaf ?_; rfl))
def table_Get.pre (a0 : List (Int × Int × Bool × Unit) × Int × Unit) (a1 : Int) : Bool := (table_Get.opt a0 a1).isSome
def table_Get (a0 : List (Int × Int × Bool × Unit) × Int × Unit) (a1 : Int) : Int × Bool := (table_Get.opt a0 a1).getD default
theorem table_Get.of_opt (a0 : List (Int × Int × Bool × Unit) × Int × Unit) (a1 : Int) {x : Int × Bool} (h : table_Get.opt a0 a1 = some x) : table_Get.pre a0 a1 = true ∧ table_Get a0 a1 = x := by
  unfold table_Get.pre table_Get
  rw [h]
  exact ⟨rfl, rfl⟩
theorem table_Get.nice {R : Type} (a0 : List (Int × Int × Bool × Unit) × Int × Unit) (a1 : Int) (hp : table_Get.pre a0 a1 = true) (ret : Int → Bool → Option R) : table_Get.tree a0 a1 ret = ret (table_Get a0 a1).1 (table_Get a0 a1).2 := by
  rw [table_Get.nat]
  cases h : table_Get.opt a0 a1 with
  | none => rw [table_Get.pre, h] at hp; cases hp
  | some x => rw [(table_Get.of_opt a0 a1 h).2]; rfl
def table_Get.ctr : Ctr := ctrOf [Ty.pt (Ty.pair (Ty.sl Te) (Ty.pair (Ty.int IntKind.i64) Ty.unit)), Ty.int IntKind.u32] fun x => .guard (table_Get.pre (x.1) (x.2.1)) (.ret [⟨Ty.int IntKind.i64, (table_Get (x.1) (x.2.1)).1⟩, ⟨Ty.bool, (table_Get (x.1) (x.2.1)).2⟩])
theorem table_Get.known : Known Tryd.prog 14 table_Get.ctr :=
  known_plain table_Get.envOk mixed Tryd.func14 (by kernel_rfl) (by kernel_rfl) (noLoops (by kernel_rfl)) (noSpots (by kernel_rfl)) fun x rs h => by
    obtain ⟨a0, a1, u⟩ := x
    cases u
    simp only [Cmd.val_guard, Cmd.val_ret] at h
    split at h <;> try (cases h; done)
    rename_i hp
    exact (table_Get.eq a0 a1).trans ((table_Get.nice a0 a1 hp (fun r0 r1 => some ([⟨Ty.int IntKind.i64, r0⟩, ⟨Ty.bool, r1⟩] : List DVal))).trans h)

/-! ### table_New -/
def table_New.env : Env := envCons 24 table_width.ctr <| envNil
theorem table_New.envOk : EnvOk Tryd.prog table_New.env := envOk_cons table_width.known (envOk_nil _)
def table_New.C : Cfg := { rows := [], keep := [], adopt := [], owns := [(6, Tt)] }
def table_New.tree {R : Type} (a0 : Int) (ret : (List (Int × Int × Bool × Unit) × Int × Unit) → Option R) : Option R :=
  bif decide ((0 : Int) ≤ table_width a0) && decide (table_width a0 ≤ table_width a0) && decide (table_width a0 ≤ (9223372036854775807 : Int)) && decide (table_width a0 * (24 : Int) ≤ (140737488355328 : Int)) then ret (List.replicate (Int.toNat (table_width a0)) (DVal.x { t := Ty.int IntKind.u32, x := (0 : Int) }, DVal.x { t := Ty.pair (DVal.t { t := Ty.int IntKind.i64, x := (0 : Int) }) (DVal.t { t := Ty.pair (DVal.t { t := Ty.bool, x := false }) (DVal.t { t := Ty.unit, x := () }), x := (DVal.x { t := Ty.bool, x := false }, DVal.x { t := Ty.unit, x := () }) }), x := (DVal.x { t := Ty.int IntKind.i64, x := (0 : Int) }, DVal.x { t := Ty.pair (DVal.t { t := Ty.bool, x := false }) (DVal.t { t := Ty.unit, x := () }), x := (DVal.x { t := Ty.bool, x := false }, DVal.x { t := Ty.unit, x := () }) }) }), (0 : Int), ()) else none
theorem table_New.eq (a0 : Int) : body Tryd.prog table_New.C table_New.env noL Tryd.f8 [⟨Ty.int IntKind.i64, a0⟩] = table_New.tree a0 (fun r0 => some ([⟨Ty.box (Ty.pair (Ty.own Te) (Ty.pair (Ty.int IntKind.i64) Ty.unit)), r0⟩] : List DVal)) := by kernel_rfl
def table_New.opt (a0 : Int) : Option ((List (Int × Int × Bool × Unit) × Int × Unit)) := table_New.tree a0 (fun r0 => some (r0))
theorem table_New.nat {R : Type} (a0 : Int) (ret : (List (Int × Int × Bool × Unit) × Int × Unit) → Option R) : table_New.tree a0 ret = (table_New.opt a0).bind (fun x => ret x) := by
  unfold table_New.opt table_New.tree
  repeat (first | with_reducible exact nat_none _ | with_reducible refine nat_cond ?_ ?_ | with_reducible refine nat_ite ?_ ?_ | (with_reducible refine nat_leaf ?_; rfl))
def table_New.pre (a0 : Int) : Bool := (table_New.opt a0).isSome
def table_New (a0 : Int) : (List (Int × Int × Bool × Unit) × Int × Unit) := (table_New.opt a0).getD default
theorem table_New.of_opt (a0 : Int) {x : (List (Int × Int × Bool × Unit) × Int × Unit)} (h : table_New.opt a0 = some x) : table_New.pre a0 = true ∧ table_New a0 = x := by
  unfold table_New.pre table_New
  rw [h]
  exact ⟨rfl, rfl⟩
theorem table_New.nice {R : Type} (a0 : Int) (hp : table_New.pre a0 = true) (ret : (List (Int × Int × Bool × Unit) × Int × Unit) → Option R) : table_New.tree a0 ret = ret (table_New a0) := by
  rw [table_New.nat]
  cases h : table_New.opt a0 with
  | none => rw [table_New.pre, h] at hp; cases hp
  | some x => rw [(table_New.of_opt a0 h).2]; rfl
def table_New.ctr : Ctr := ctrOf [Ty.int IntKind.i64] fun x => .guard (table_New.pre (x.1)) (.ret [⟨Ty.box (Ty.pair (Ty.own Te) (Ty.pair (Ty.int IntKind.i64) Ty.unit)), table_New (x.1)⟩])
theorem table_New.known : Known Tryd.prog 8 table_New.ctr :=
  known_plain table_New.envOk mixed Tryd.func8 (by kernel_rfl) (by kernel_rfl) (noLoops (by kernel_rfl)) (noSpots (by kernel_rfl)) fun x rs h => by
    obtain ⟨a0, u⟩ := x
    cases u
    simp only [Cmd.val_guard, Cmd.val_ret] at h
    split at h <;> try (cases h; done)
    rename_i hp
    exact (table_New.eq a0).trans ((table_New.nice a0 hp (fun r0 => some ([⟨Ty.box (Ty.pair (Ty.own Te) (Ty.pair (Ty.int IntKind.i64) Ty.unit)), r0⟩] : List DVal))).trans h)

/-! ### table_Put -/
def table_Put.env : Env := envCons 25 table_find.ctr <| envNil
theorem table_Put.envOk : EnvOk Tryd.prog table_Put.env := envOk_cons table_find.known (envOk_nil _)
def table_Put.T3000003 : Tm := ⟨fill 0 47 [(0, Sl.ref (4000000 : Nat)), (1, Sl.data (Ty.int IntKind.u32)), (2, Sl.data (Ty.int IntKind.i64)), (7, Sl.data (Ty.int IntKind.i64)), (19, Sl.data Ty.bool)], [{ k := (4000000 : Nat), t := Ty.box (Ty.pair (Ty.own Te) (Ty.pair (Ty.int IntKind.i64) Ty.unit)), vir := true }]⟩
def table_Put.X3000003_ret : Tm := ⟨fill 0 47 [(0, Sl.ref (4000000 : Nat)), (1, Sl.data (Ty.int IntKind.u32)), (2, Sl.data (Ty.int IntKind.i64)), (6, Sl.data Ty.bool), (7, Sl.data (Ty.int IntKind.i64))], [{ k := (4000000 : Nat), t := Ty.box (Ty.pair (Ty.own Te) (Ty.pair (Ty.int IntKind.i64) Ty.unit)), vir := true }]⟩
def table_Put.X3000003_normal : Tm := ⟨fill 0 47 [(0, Sl.ref (4000000 : Nat)), (1, Sl.data (Ty.int IntKind.u32)), (2, Sl.data (Ty.int IntKind.i64)), (7, Sl.data (Ty.int IntKind.i64))], [{ k := (4000000 : Nat), t := Ty.box (Ty.pair (Ty.own Te) (Ty.pair (Ty.int IntKind.i64) Ty.unit)), vir := true }]⟩
def table_Put.o3000003 {R : Type} (v0 : Int) (v1 : Int) (v2 : Int) (v3 : Bool) (v4 : List (Int × Int × Bool × Unit) × Int × Unit) (kret : Int → Int → Bool → Int → (List (Int × Int × Bool × Unit) × Int × Unit) → Option R) (knormal : Int → Int → Int → (List (Int × Int × Bool × Unit) × Int × Unit) → Option R) : Option R :=
  bif v3 then bif Prod.fst (Prod.snd v4) == IntKind.wrap IntKind.i64 (↑(List.length (Prod.fst v4)) - (1 : Int)) then kret v0 v1 false v2 v4 else knormal v0 v1 v2 (Prod.fst v4, IntKind.wrap IntKind.i64 (Prod.fst (Prod.snd v4) + (1 : Int)), ()) else knormal v0 v1 v2 v4
def table_Put.s3000003 {R : Type} (v0 : Int) (v1 : Int) (v2 : Int) (v3 : Bool) (v4 : List (Int × Int × Bool × Unit) × Int × Unit) (kret : Int → Int → Bool → Int → (List (Int × Int × Bool × Unit) × Int × Unit) → Option R) (knormal : Int → Int → Int → (List (Int × Int × Bool × Unit) × Int × Unit) → Option R) : Option R :=
  bif !v3 || !Prod.fst (Prod.snd v4) == IntKind.wrap IntKind.i64 (↑(List.length (Prod.fst v4)) - (1 : Int)) then knormal v0 v1 v2 (bif v3 then (Prod.fst v4, IntKind.wrap IntKind.i64 (Prod.fst (Prod.snd v4) + (1 : Int)), ()) else v4) else bif v3 then bif Prod.fst (Prod.snd v4) == IntKind.wrap IntKind.i64 (↑(List.length (Prod.fst v4)) - (1 : Int)) then kret v0 v1 false v2 v4 else none else none
theorem table_Put.s3000003_eq {R : Type} (v0 : Int) (v1 : Int) (v2 : Int) (v3 : Bool) (v4 : List (Int × Int × Bool × Unit) × Int × Unit) (kret : Int → Int → Bool → Int → (List (Int × Int × Bool × Unit) × Int × Unit) → Option R) (knormal : Int → Int → Int → (List (Int × Int × Bool × Unit) × Int × Unit) → Option R) : table_Put.s3000003 v0 v1 v2 v3 v4 kret knormal = table_Put.o3000003 v0 v1 v2 v3 v4 kret knormal := by
  unfold table_Put.s3000003 table_Put.o3000003
  (cases hc : v3 with | false => (first | rfl | simp_all) | true => (cases hc : Prod.fst (Prod.snd v4) == IntKind.wrap IntKind.i64 (↑(List.length (Prod.fst v4)) - (1 : Int)) with | false => (first | rfl | simp_all) | true => (first | rfl | simp_all)))
def table_Put.C : Cfg := { rows := [], keep := [(3000003, [0, 1, 2, 7, 19], [4000000]), (13000003, [0, 1, 2, 6, 7], [4000000])], adopt := [] }
def table_Put.sum3000003 : FrV table_Put.T3000003.fr × StV table_Put.T3000003.st → (Ex → S → Option (List DVal)) → Option (List DVal) := fun ((v0, v1, v2, v3, ()), (v4, ())) K => table_Put.s3000003 v0 v1 v2 v3 v4 (fun e0 e1 e2 e3 e4 => K .ret (pack table_Put.X3000003_ret ((e0, e1, e2, e3, ()), (e4, ())))) (fun e0 e1 e2 e3 => K .normal (pack table_Put.X3000003_normal ((e0, e1, e2, ()), (e3, ()))))
def table_Put.L : Nat → Option Sum := fun i => if i = 3000003 then some (sumOf table_Put.T3000003 table_Put.sum3000003) else none
theorem table_Put.x3000003 : ∀ v (K : Ex → S → Option (List DVal)), exec1 Tryd.prog table_Put.C table_Put.env table_Put.L (spotOf Tryd.f10 3000003).2.1 (spotOf Tryd.f10 3000003).2.2 (pack table_Put.T3000003 v) (fun e s' => K e (trim table_Put.C (3000003 + 10000000) s')) = (fun (((v0, v1, v2, v3, ()), (v4, ())) : FrV table_Put.T3000003.fr × StV table_Put.T3000003.st) => table_Put.o3000003 v0 v1 v2 v3 v4 (fun e0 e1 e2 e3 e4 => K .ret (pack table_Put.X3000003_ret ((e0, e1, e2, e3, ()), (e4, ())))) (fun e0 e1 e2 e3 => K .normal (pack table_Put.X3000003_normal ((e0, e1, e2, ()), (e3, ()))))) v :=
  fun ((v0, v1, v2, v3, ()), (v4, ())) K => by kernel_rfl
theorem table_Put.sum3000003_ok : SpotOk Tryd.prog table_Put.C table_Put.env table_Put.L (spotOf Tryd.f10 3000003) := spotOk_of (T := table_Put.T3000003) (q := 3000003) (f := table_Put.sum3000003) (by kernel_rfl) (by kernel_rfl) fun ((v0, v1, v2, v3, ()), (v4, ())) K r h => (table_Put.x3000003 _ K).trans ((table_Put.s3000003_eq v0 v1 v2 v3 v4 (fun e0 e1 e2 e3 e4 => K .ret (pack table_Put.X3000003_ret ((e0, e1, e2, e3, ()), (e4, ())))) (fun e0 e1 e2 e3 => K .normal (pack table_Put.X3000003_normal ((e0, e1, e2, ()), (e3, ()))))).symm.trans h)
def table_Put.tree {R : Type} (a0 : List (Int × Int × Bool × Unit) × Int × Unit) (a1 : Int) (a2 : Int) (ret : (List (Int × Int × Bool × Unit) × Int × Unit) → Bool → Option R) : Option R :=
  bif table_find.pre (Prod.fst a0, Prod.fst (Prod.snd a0), Prod.snd (Prod.snd a0)) a1 then bif decide ((0 : Int) ≤ table_find (Prod.fst a0, Prod.fst (Prod.snd a0), Prod.snd (Prod.snd a0)) a1) && decide (table_find (Prod.fst a0, Prod.fst (Prod.snd a0), Prod.snd (Prod.snd a0)) a1 < (↑(List.length (Prod.fst a0)) : Int)) then bif !!Prod.fst (Prod.snd (Prod.snd (List.getD (Prod.fst a0) (Int.toNat (table_find (Prod.fst a0, Prod.fst (Prod.snd a0), Prod.snd (Prod.snd a0)) a1)) (Ty.dflt Te)))) || !Prod.fst (Prod.snd a0) == IntKind.wrap IntKind.i64 (↑(List.length (Prod.fst a0)) - (1 : Int)) then bif decide ((0 : Int) ≤ table_find (Prod.fst a0, Prod.fst (Prod.snd a0), Prod.snd (Prod.snd a0)) a1) && decide (table_find (Prod.fst a0, Prod.fst (Prod.snd a0), Prod.snd (Prod.snd a0)) a1 < (↑(List.length (Prod.fst (bif !Prod.fst (Prod.snd (Prod.snd (List.getD (Prod.fst a0) (Int.toNat (table_find (Prod.fst a0, Prod.fst (Prod.snd a0), Prod.snd (Prod.snd a0)) a1)) (Ty.dflt Te)))) then (Prod.fst a0, IntKind.wrap IntKind.i64 (Prod.fst (Prod.snd a0) + (1 : Int)), ()) else a0))) : Int)) then ret (List.set (Prod.fst (bif !Prod.fst (Prod.snd (Prod.snd (List.getD (Prod.fst a0) (Int.toNat (table_find (Prod.fst a0, Prod.fst (Prod.snd a0), Prod.snd (Prod.snd a0)) a1)) (Ty.dflt Te)))) then (Prod.fst a0, IntKind.wrap IntKind.i64 (Prod.fst (Prod.snd a0) + (1 : Int)), ()) else a0)) (Int.toNat (table_find (Prod.fst a0, Prod.fst (Prod.snd a0), Prod.snd (Prod.snd a0)) a1)) (a1, a2, true, ()), Prod.snd (bif !Prod.fst (Prod.snd (Prod.snd (List.getD (Prod.fst a0) (Int.toNat (table_find (Prod.fst a0, Prod.fst (Prod.snd a0), Prod.snd (Prod.snd a0)) a1)) (Ty.dflt Te)))) then (Prod.fst a0, IntKind.wrap IntKind.i64 (Prod.fst (Prod.snd a0) + (1 : Int)), ()) else a0)) true else none else bif !Prod.fst (Prod.snd (Prod.snd (List.getD (Prod.fst a0) (Int.toNat (table_find (Prod.fst a0, Prod.fst (Prod.snd a0), Prod.snd (Prod.snd a0)) a1)) (Ty.dflt Te)))) then bif Prod.fst (Prod.snd a0) == IntKind.wrap IntKind.i64 (↑(List.length (Prod.fst a0)) - (1 : Int)) then ret a0 false else none else none else none else none
theorem table_Put.eq (a0 : List (Int × Int × Bool × Unit) × Int × Unit) (a1 : Int) (a2 : Int) : body Tryd.prog table_Put.C table_Put.env table_Put.L Tryd.f10 [⟨Ty.box (Ty.pair (Ty.own Te) (Ty.pair (Ty.int IntKind.i64) Ty.unit)), a0⟩, ⟨Ty.int IntKind.u32, a1⟩, ⟨Ty.int IntKind.i64, a2⟩] = table_Put.tree a0 a1 a2 (fun r0 r1 => some ([⟨Ty.box (Ty.pair (Ty.own Te) (Ty.pair (Ty.int IntKind.i64) Ty.unit)), r0⟩, ⟨Ty.bool, r1⟩] : List DVal)) := by kernel_rfl
def table_Put.opt (a0 : List (Int × Int × Bool × Unit) × Int × Unit) (a1 : Int) (a2 : Int) : Option ((List (Int × Int × Bool × Unit) × Int × Unit) × Bool) := table_Put.tree a0 a1 a2 (fun r0 r1 => some (r0, r1))
theorem table_Put.nat {R : Type} (a0 : List (Int × Int × Bool × Unit) × Int × Unit) (a1 : Int) (a2 : Int) (ret : (List (Int × Int × Bool × Unit) × Int × Unit) → Bool → Option R) : table_Put.tree a0 a1 a2 ret = (table_Put.opt a0 a1 a2).bind (fun x => ret x.1 x.2) := by
  unfold table_Put.opt table_Put.tree
  repeat (first | unfold table_Put.s3000003)
  repeat (first | with_reducible exact nat_none _ | with_reducible refine nat_cond ?_ ?_ | with_reducible refine nat_ite ?_ ?_ | (with_reducible refine nat_leaf ?_; rfl))
def table_Put.pre (a0 : List (Int × Int × Bool × Unit) × Int × Unit) (a1 : Int) (a2 : Int) : Bool := (table_Put.opt a0 a1 a2).isSome
def table_Put (a0 : List (Int × Int × Bool × Unit) × Int × Unit) (a1 : Int) (a2 : Int) : (List (Int × Int × Bool × Unit) × Int × Unit) × Bool := (table_Put.opt a0 a1 a2).getD default
theorem table_Put.of_opt (a0 : List (Int × Int × Bool × Unit) × Int × Unit) (a1 : Int) (a2 : Int) {x : (List (Int × Int × Bool × Unit) × Int × Unit) × Bool} (h : table_Put.opt a0 a1 a2 = some x) : table_Put.pre a0 a1 a2 = true ∧ table_Put a0 a1 a2 = x := by
  unfold table_Put.pre table_Put
  rw [h]
  exact ⟨rfl, rfl⟩
theorem table_Put.nice {R : Type} (a0 : List (Int × Int × Bool × Unit) × Int × Unit) (a1 : Int) (a2 : Int) (hp : table_Put.pre a0 a1 a2 = true) (ret : (List (Int × Int × Bool × Unit) × Int × Unit) → Bool → Option R) : table_Put.tree a0 a1 a2 ret = ret (table_Put a0 a1 a2).1 (table_Put a0 a1 a2).2 := by
  rw [table_Put.nat]
  cases h : table_Put.opt a0 a1 a2 with
  | none => rw [table_Put.pre, h] at hp; cases hp
  | some x => rw [(table_Put.of_opt a0 a1 a2 h).2]; rfl
def table_Put.ctr : Ctr := ctrOf [Ty.box (Ty.pair (Ty.own Te) (Ty.pair (Ty.int IntKind.i64) Ty.unit)), Ty.int IntKind.u32, Ty.int IntKind.i64] fun x => .guard (table_Put.pre (x.1) (x.2.1) (x.2.2.1)) (.ret [⟨Ty.box (Ty.pair (Ty.own Te) (Ty.pair (Ty.int IntKind.i64) Ty.unit)), (table_Put (x.1) (x.2.1) (x.2.2.1)).1⟩, ⟨Ty.bool, (table_Put (x.1) (x.2.1) (x.2.2.1)).2⟩])
theorem table_Put.known : Known Tryd.prog 10 table_Put.ctr :=
  known_plain table_Put.envOk mixed Tryd.func10 (by kernel_rfl) (by kernel_rfl) (noLoops (by kernel_rfl)) (bySpot (ids := [3000003]) (by kernel_rfl) (by intro q hq; simp only [List.mem_cons, List.not_mem_nil, or_false] at hq; subst hq; first | exact table_Put.sum3000003_ok)) fun x rs h => by
    obtain ⟨a0, a1, a2, u⟩ := x
    cases u
    simp only [Cmd.val_guard, Cmd.val_ret] at h
    split at h <;> try (cases h; done)
    rename_i hp
    exact (table_Put.eq a0 a1 a2).trans ((table_Put.nice a0 a1 a2 hp (fun r0 r1 => some ([⟨Ty.box (Ty.pair (Ty.own Te) (Ty.pair (Ty.int IntKind.i64) Ty.unit)), r0⟩, ⟨Ty.bool, r1⟩] : List DVal))).trans h)

/-! ### help_Ints -/
def help_Ints.env : Env := envNil
theorem help_Ints.envOk : EnvOk Tryd.prog help_Ints.env := envOk_nil _

def help_Ints.T0 : Tm := ⟨fill 0 26 [(0, Sl.data (Ty.sl (Ty.int IntKind.i64))), (1, Sl.data (Ty.sl (Ty.int IntKind.i64))), (5, Sl.data (Ty.int IntKind.i64))], []⟩
def help_Ints.X0_ret : Tm := ⟨fill 0 26 [(4, Sl.data Ty.bool)], []⟩
def help_Ints.X0_exit0 : Tm := ⟨fill 0 26 [], []⟩
def help_Ints.round0 {R : Type} (v0 : List Int) (v1 : List Int) (v2 : Int) (next : (List Int) → (List Int) → Int → Option R) (kret : Bool → Option R) (kexit0 : Option R) : Option R :=
  bif decide (v2 < (↑(List.length v0) : Int)) then bif decide ((0 : Int) ≤ v2) && decide (v2 < (↑(List.length v0) : Int)) then bif decide ((0 : Int) ≤ v2) && decide (v2 < (↑(List.length v1) : Int)) then bif List.getD v0 (Int.toNat v2) (0 : Int) != List.getD v1 (Int.toNat v2) (0 : Int) then kret false else next v0 v1 (IntKind.wrap IntKind.i64 (v2 + (1 : Int))) else none else none else kexit0
def help_Ints.R0 {R : Type} (kret : Bool → Option R) (kexit0 : Option R) : ((List Int) × (List Int) × Int) → (((List Int) × (List Int) × Int) → Option R) → Option R := fun (v0, v1, v2) next => help_Ints.round0 v0 v1 v2 (fun w0 w1 w2 => next (w0, w1, w2)) kret kexit0
theorem help_Ints.R0_eq {R : Type} (kret : Bool → Option R) (kexit0 : Option R) (v0 : List Int) (v1 : List Int) (v2 : Int) (next : ((List Int) × (List Int) × Int) → Option R) : help_Ints.R0 kret kexit0 (v0, v1, v2) next = help_Ints.round0 v0 v1 v2 (fun w0 w1 w2 => next (w0, w1, w2)) kret kexit0 := rfl
def help_Ints.loop0 {R : Type} (v0 : List Int) (v1 : List Int) (v2 : Int) (kret : Bool → Option R) (kexit0 : Option R) : Option R := lp (help_Ints.R0 kret kexit0) 5000 (v0, v1, v2)
theorem help_Ints.loop0_ok {R : Type} (v0 : List Int) (v1 : List Int) (v2 : Int) (kret : Bool → Option R) (kexit0 : Option R) (r : R) (h : help_Ints.loop0 v0 v1 v2 kret kexit0 = some r) : ∃ n, lp (help_Ints.R0 kret kexit0) n (v0, v1, v2) = some r := ⟨5000, h⟩
theorem help_Ints.loop0_nat {A B : Type} (v0 : List Int) (v1 : List Int) (v2 : Int) (kret : Bool → Option A) (kexit0 : Option A) (kret' : Bool → Option B) (kexit0' : Option B) (f : A → Option B) (hret : ∀ e0, kret' e0 = (kret e0).bind f) (hexit0 : kexit0' = (kexit0).bind f) : help_Ints.loop0 v0 v1 v2 kret' kexit0' = (help_Ints.loop0 v0 v1 v2 kret kexit0).bind f := by
  unfold help_Ints.loop0
  refine nat_lp ?_ _ _
  intro v next next' hn
  obtain ⟨v0, v1, v2⟩ := v
  rw [help_Ints.R0_eq, help_Ints.R0_eq]
  unfold help_Ints.round0
  repeat (first | with_reducible exact nat_none _ | with_reducible exact hn _ | with_reducible exact hret _ | with_reducible exact hexit0 | with_reducible refine nat_cond ?_ ?_ | with_reducible refine nat_ite ?_ ?_)
def help_Ints.C : Cfg := { rows := [], keep := [(0, [0, 1, 5], []), (1000000, [4], [])], adopt := [] }
def help_Ints.sum0 : FrV help_Ints.T0.fr × StV help_Ints.T0.st → (Ex → S → Option (List DVal)) → Option (List DVal) := fun ((v0, v1, v2, ()), (())) K => help_Ints.loop0 v0 v1 v2 (fun e0 => K .ret (pack help_Ints.X0_ret ((e0, ()), (())))) (K (.exit 0) (pack help_Ints.X0_exit0 ((), ())))
def help_Ints.rnd0 : FrV help_Ints.T0.fr × StV help_Ints.T0.st → (FrV help_Ints.T0.fr × StV help_Ints.T0.st → Option (List DVal)) → (Ex → S → Option (List DVal)) → Option (List DVal) := fun ((v0, v1, v2, ()), (())) next K => help_Ints.round0 v0 v1 v2 (fun w0 w1 w2 => next ((w0, w1, w2, ()), (()))) (fun e0 => K .ret (pack help_Ints.X0_ret ((e0, ()), (())))) (K (.exit 0) (pack help_Ints.X0_exit0 ((), ())))
def help_Ints.L : Nat → Option Sum := fun i => if i = 0 then some (sumOf help_Ints.T0 help_Ints.sum0) else none
theorem help_Ints.rnd0_eq : ∀ v (r : S → Option (List DVal)) (K : Ex → S → Option (List DVal)), exec Tryd.prog help_Ints.C help_Ints.env help_Ints.L 0 (loopOf Tryd.f18 0) (pack help_Ints.T0 v) (fun e s' => match e with | .normal => r (trim help_Ints.C 0 s') | e => K e (trim help_Ints.C (0 + 1000000) s')) = help_Ints.rnd0 v (fun v' => r (pack help_Ints.T0 v')) K :=
  fun ((v0, v1, v2, ()), (())) r K => by kernel_rfl
theorem help_Ints.lp0 (K : Ex → S → Option (List DVal)) : ∀ (n : Nat) (v0 : List Int) (v1 : List Int) (v2 : Int), lp (fun v next => help_Ints.rnd0 v next K) n ((v0, v1, v2, ()), (())) = lp (help_Ints.R0 (fun e0 => K .ret (pack help_Ints.X0_ret ((e0, ()), (())))) (K (.exit 0) (pack help_Ints.X0_exit0 ((), ())))) n (v0, v1, v2) := by
  intro n
  induction n with
  | zero => intros; rfl
  | succ n ih =>
    intro v0 v1 v2
    show help_Ints.round0 v0 v1 v2 (fun w0 w1 w2 => lp (fun v next => help_Ints.rnd0 v next K) n ((w0, w1, w2, ()), (()))) (fun e0 => K .ret (pack help_Ints.X0_ret ((e0, ()), (())))) (K (.exit 0) (pack help_Ints.X0_exit0 ((), ()))) = help_Ints.round0 v0 v1 v2 (fun w0 w1 w2 => lp (help_Ints.R0 (fun e0 => K .ret (pack help_Ints.X0_ret ((e0, ()), (())))) (K (.exit 0) (pack help_Ints.X0_exit0 ((), ())))) n (w0, w1, w2)) (fun e0 => K .ret (pack help_Ints.X0_ret ((e0, ()), (())))) (K (.exit 0) (pack help_Ints.X0_exit0 ((), ())))
    simp only [ih]
theorem help_Ints.sum0_ok : SumOk Tryd.prog help_Ints.C help_Ints.env help_Ints.L 0 (loopOf Tryd.f18 0) := sumOk_lp (T := help_Ints.T0) (rnd := help_Ints.rnd0) (f := help_Ints.sum0) rfl help_Ints.rnd0_eq fun ((v0, v1, v2, ()), (())) K r h => by
  obtain ⟨n, hn⟩ := help_Ints.loop0_ok v0 v1 v2 (fun e0 => K .ret (pack help_Ints.X0_ret ((e0, ()), (())))) (K (.exit 0) (pack help_Ints.X0_exit0 ((), ()))) r h
  exact ⟨n, by rw [help_Ints.lp0]; exact hn⟩
def help_Ints.tree {R : Type} (a0 : List Int) (a1 : List Int) (ret : Bool → Option R) : Option R :=
  bif (↑(List.length a0) : Int) != (↑(List.length a1) : Int) then ret false else help_Ints.loop0 a0 a1 (0 : Int) (fun e0 => ret e0) (ret true)
theorem help_Ints.eq (a0 : List Int) (a1 : List Int) : body Tryd.prog help_Ints.C help_Ints.env help_Ints.L Tryd.f18 [⟨Ty.sl (Ty.int IntKind.i64), a0⟩, ⟨Ty.sl (Ty.int IntKind.i64), a1⟩] = help_Ints.tree a0 a1 (fun r0 => some ([⟨Ty.bool, r0⟩] : List DVal)) := by kernel_rfl
def help_Ints.opt (a0 : List Int) (a1 : List Int) : Option (Bool) := help_Ints.tree a0 a1 (fun r0 => some (r0))
theorem help_Ints.nat {R : Type} (a0 : List Int) (a1 : List Int) (ret : Bool → Option R) : help_Ints.tree a0 a1 ret = (help_Ints.opt a0 a1).bind (fun x => ret x) := by
  unfold help_Ints.opt help_Ints.tree
  repeat (first | with_reducible exact nat_none _ | with_reducible refine nat_cond ?_ ?_ | with_reducible refine nat_ite ?_ ?_ | (with_reducible refine help_Ints.loop0_nat _ _ _ _ _ _ _ _ ?_ ?_ <;> intros) | (with_reducible refine nat_leaf ?_; rfl))
def help_Ints.pre (a0 : List Int) (a1 : List Int) : Bool := (help_Ints.opt a0 a1).isSome
def help_Ints (a0 : List Int) (a1 : List Int) : Bool := (help_Ints.opt a0 a1).getD default
theorem help_Ints.of_opt (a0 : List Int) (a1 : List Int) {x : Bool} (h : help_Ints.opt a0 a1 = some x) : help_Ints.pre a0 a1 = true ∧ help_Ints a0 a1 = x := by
  unfold help_Ints.pre help_Ints
  rw [h]
  exact ⟨rfl, rfl⟩
theorem help_Ints.nice {R : Type} (a0 : List Int) (a1 : List Int) (hp : help_Ints.pre a0 a1 = true) (ret : Bool → Option R) : help_Ints.tree a0 a1 ret = ret (help_Ints a0 a1) := by
  rw [help_Ints.nat]
  cases h : help_Ints.opt a0 a1 with
  | none => rw [help_Ints.pre, h] at hp; cases hp
  | some x => rw [(help_Ints.of_opt a0 a1 h).2]; rfl
def help_Ints.ctr : Ctr := ctrOf [Ty.sl (Ty.int IntKind.i64), Ty.sl (Ty.int IntKind.i64)] fun x => .guard (help_Ints.pre (x.1) (x.2.1)) (.ret [⟨Ty.bool, help_Ints (x.1) (x.2.1)⟩])
theorem help_Ints.known : Known Tryd.prog 18 help_Ints.ctr :=
  known_plain help_Ints.envOk mixed Tryd.func18 (by kernel_rfl) (by kernel_rfl) (byId (by kernel_rfl : loopIds Tryd.f18 = [0]) (by intro q hq; simp only [List.mem_cons, List.not_mem_nil, or_false] at hq; subst hq; first | exact help_Ints.sum0_ok)) (noSpots (by kernel_rfl)) fun x rs h => by
    obtain ⟨a0, a1, u⟩ := x
    cases u
    simp only [Cmd.val_guard, Cmd.val_ret] at h
    split at h <;> try (cases h; done)
    rename_i hp
    exact (help_Ints.eq a0 a1).trans ((help_Ints.nice a0 a1 hp (fun r0 => some ([⟨Ty.bool, r0⟩] : List DVal))).trans h)
end
end Go.D.YtmdnddoiopgboaaDoor
