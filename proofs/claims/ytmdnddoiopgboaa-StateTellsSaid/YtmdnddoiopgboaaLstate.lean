import Derived.Test.YtmdnddoiopgboaaChecked
import Derived.Test.YtmdnddoiopgboaaDW
import Derived.KernelRfl
namespace Go.D.Ytmdnddoiopgboaa
open Go.Proofs
set_option linter.unusedVariables false
set_option linter.unusedSimpArgs false
set_option maxRecDepth 100000
noncomputable section
theorem mixed : Try.prog.follows .mixedOrders = true := by kernel_rfl
def noL : Nat → Option Sum := fun _ => none
abbrev StT : Ty := Ty.pair (Ty.arr (16 : Nat) (Ty.int IntKind.u32)) (Ty.pair (Ty.int IntKind.i64) (Ty.pair Ty.bool Ty.unit))
abbrev Sta := StT.den
theorem len_cons {α : Type} {n : Nat} {l : List α} (h : l.length = n + 1) : ∃ x t, l = x :: t ∧ t.length = n := by
  cases l with
  | nil => cases h
  | cons x t => exact ⟨x, t, rfl, by simpa using h⟩
theorem len16 {α : Type} {l : List α} (h : l.length = 16) : ∃ x0 x1 x2 x3 x4 x5 x6 x7 x8 x9 x10 x11 x12 x13 x14 x15, l = [x0, x1, x2, x3, x4, x5, x6, x7, x8, x9, x10, x11, x12, x13, x14, x15] := by
  obtain ⟨x0, l1, e0, k0⟩ := len_cons h
  subst e0
  obtain ⟨x1, l2, e1, k1⟩ := len_cons k0
  subst e1
  obtain ⟨x2, l3, e2, k2⟩ := len_cons k1
  subst e2
  obtain ⟨x3, l4, e3, k3⟩ := len_cons k2
  subst e3
  obtain ⟨x4, l5, e4, k4⟩ := len_cons k3
  subst e4
  obtain ⟨x5, l6, e5, k5⟩ := len_cons k4
  subst e5
  obtain ⟨x6, l7, e6, k6⟩ := len_cons k5
  subst e6
  obtain ⟨x7, l8, e7, k7⟩ := len_cons k6
  subst e7
  obtain ⟨x8, l9, e8, k8⟩ := len_cons k7
  subst e8
  obtain ⟨x9, l10, e9, k9⟩ := len_cons k8
  subst e9
  obtain ⟨x10, l11, e10, k10⟩ := len_cons k9
  subst e10
  obtain ⟨x11, l12, e11, k11⟩ := len_cons k10
  subst e11
  obtain ⟨x12, l13, e12, k12⟩ := len_cons k11
  subst e12
  obtain ⟨x13, l14, e13, k13⟩ := len_cons k12
  subst e13
  obtain ⟨x14, l15, e14, k14⟩ := len_cons k13
  subst e14
  obtain ⟨x15, l16, e15, k15⟩ := len_cons k14
  subst e15
  obtain rfl := List.eq_nil_of_length_eq_zero k15
  exact ⟨x0, x1, x2, x3, x4, x5, x6, x7, x8, x9, x10, x11, x12, x13, x14, x15, rfl⟩
theorem len32 {α : Type} {l : List α} (h : l.length = 32) : ∃ x0 x1 x2 x3 x4 x5 x6 x7 x8 x9 x10 x11 x12 x13 x14 x15 x16 x17 x18 x19 x20 x21 x22 x23 x24 x25 x26 x27 x28 x29 x30 x31, l = [x0, x1, x2, x3, x4, x5, x6, x7, x8, x9, x10, x11, x12, x13, x14, x15, x16, x17, x18, x19, x20, x21, x22, x23, x24, x25, x26, x27, x28, x29, x30, x31] := by
  obtain ⟨x0, l1, e0, k0⟩ := len_cons h
  subst e0
  obtain ⟨x1, l2, e1, k1⟩ := len_cons k0
  subst e1
  obtain ⟨x2, l3, e2, k2⟩ := len_cons k1
  subst e2
  obtain ⟨x3, l4, e3, k3⟩ := len_cons k2
  subst e3
  obtain ⟨x4, l5, e4, k4⟩ := len_cons k3
  subst e4
  obtain ⟨x5, l6, e5, k5⟩ := len_cons k4
  subst e5
  obtain ⟨x6, l7, e6, k6⟩ := len_cons k5
  subst e6
  obtain ⟨x7, l8, e7, k7⟩ := len_cons k6
  subst e7
  obtain ⟨x8, l9, e8, k8⟩ := len_cons k7
  subst e8
  obtain ⟨x9, l10, e9, k9⟩ := len_cons k8
  subst e9
  obtain ⟨x10, l11, e10, k10⟩ := len_cons k9
  subst e10
  obtain ⟨x11, l12, e11, k11⟩ := len_cons k10
  subst e11
  obtain ⟨x12, l13, e12, k12⟩ := len_cons k11
  subst e12
  obtain ⟨x13, l14, e13, k13⟩ := len_cons k12
  subst e13
  obtain ⟨x14, l15, e14, k14⟩ := len_cons k13
  subst e14
  obtain ⟨x15, l16, e15, k15⟩ := len_cons k14
  subst e15
  obtain ⟨x16, l17, e16, k16⟩ := len_cons k15
  subst e16
  obtain ⟨x17, l18, e17, k17⟩ := len_cons k16
  subst e17
  obtain ⟨x18, l19, e18, k18⟩ := len_cons k17
  subst e18
  obtain ⟨x19, l20, e19, k19⟩ := len_cons k18
  subst e19
  obtain ⟨x20, l21, e20, k20⟩ := len_cons k19
  subst e20
  obtain ⟨x21, l22, e21, k21⟩ := len_cons k20
  subst e21
  obtain ⟨x22, l23, e22, k22⟩ := len_cons k21
  subst e22
  obtain ⟨x23, l24, e23, k23⟩ := len_cons k22
  subst e23
  obtain ⟨x24, l25, e24, k24⟩ := len_cons k23
  subst e24
  obtain ⟨x25, l26, e25, k25⟩ := len_cons k24
  subst e25
  obtain ⟨x26, l27, e26, k26⟩ := len_cons k25
  subst e26
  obtain ⟨x27, l28, e27, k27⟩ := len_cons k26
  subst e27
  obtain ⟨x28, l29, e28, k28⟩ := len_cons k27
  subst e28
  obtain ⟨x29, l30, e29, k29⟩ := len_cons k28
  subst e29
  obtain ⟨x30, l31, e30, k30⟩ := len_cons k29
  subst e30
  obtain ⟨x31, l32, e31, k31⟩ := len_cons k30
  subst e31
  obtain rfl := List.eq_nil_of_length_eq_zero k31
  exact ⟨x0, x1, x2, x3, x4, x5, x6, x7, x8, x9, x10, x11, x12, x13, x14, x15, x16, x17, x18, x19, x20, x21, x22, x23, x24, x25, x26, x27, x28, x29, x30, x31, rfl⟩

/-! ### state_New -/
def state_New.env : Env := envNil
theorem state_New.envOk : EnvOk Try.prog state_New.env := envOk_nil _
def state_New.C : Cfg := { rows := [], keep := [], adopt := [] }
def state_New.tree {R : Type} (a0 : Int) (a1 : Int) (ret : (List Int × Int × Bool × Unit) → Option R) : Option R :=
  ret ([(0 : Int), (0 : Int), (0 : Int), (0 : Int), (0 : Int), (0 : Int), (0 : Int), (0 : Int), (0 : Int), (0 : Int), (0 : Int), (0 : Int), (0 : Int), a1, (4294967295 : Int), a0], (0 : Int), false, ())
theorem state_New.eq (a0 : Int) (a1 : Int) : body Try.prog state_New.C state_New.env noL Try.f18 [⟨Ty.int IntKind.u32, a0⟩, ⟨Ty.int IntKind.u32, a1⟩] = state_New.tree a0 a1 (fun r0 => some ([⟨StT, r0⟩] : List DVal)) := by kernel_rfl
def state_New (a0 : Int) (a1 : Int) : (List Int × Int × Bool × Unit) :=
  ([(0 : Int), (0 : Int), (0 : Int), (0 : Int), (0 : Int), (0 : Int), (0 : Int), (0 : Int), (0 : Int), (0 : Int), (0 : Int), (0 : Int), (0 : Int), a1, (4294967295 : Int), a0], (0 : Int), false, ())
theorem state_New.nice {R : Type} (a0 : Int) (a1 : Int) (ret : (List Int × Int × Bool × Unit) → Option R) : state_New.tree a0 a1 ret = ret (state_New a0 a1) := by
  unfold state_New.tree state_New
  simp only [Bool.apply_cond ret]
def state_New.ctr : Ctr := ctrOf [Ty.int IntKind.u32, Ty.int IntKind.u32] fun x => .ret [⟨StT, state_New (x.1) (x.2.1)⟩]
theorem state_New.known : Known Try.prog 18 state_New.ctr :=
  known_plain state_New.envOk mixed Try.func18 (by kernel_rfl) (by kernel_rfl) (noLoops (by kernel_rfl)) (noSpots (by kernel_rfl)) fun x rs h => by
    obtain ⟨a0, a1, u⟩ := x
    cases u
    simp only [Cmd.val_ret] at h
    exact (state_New.eq a0 a1).trans ((state_New.nice a0 a1 (fun r0 => some ([⟨StT, r0⟩] : List DVal))).trans h)

/-! ### state_Same -/
def state_Same.env : Env := envNil
theorem state_Same.envOk : EnvOk Try.prog state_Same.env := envOk_nil _
def state_Same.C : Cfg := { rows := [], keep := [], adopt := [] }
def state_Same.tree {R : Type} (a0 : List Int × Int × Bool × Unit) (a1 : List Int × Int × Bool × Unit) (ret : Bool → Option R) : Option R :=
  ret (eqD StT (Prod.fst a0, bitop BinOp.and IntKind.i64 (Prod.fst (Prod.snd a0)) (15 : Int), Prod.snd (Prod.snd a0)) (Prod.fst a1, bitop BinOp.and IntKind.i64 (Prod.fst (Prod.snd a1)) (15 : Int), Prod.snd (Prod.snd a1)))
theorem state_Same.eq (a0 : List Int × Int × Bool × Unit) (a1 : List Int × Int × Bool × Unit) : body Try.prog state_Same.C state_Same.env noL Try.f11 [⟨StT, a0⟩, ⟨StT, a1⟩] = state_Same.tree a0 a1 (fun r0 => some ([⟨Ty.bool, r0⟩] : List DVal)) := by kernel_rfl
def state_Same (a0 : List Int × Int × Bool × Unit) (a1 : List Int × Int × Bool × Unit) : Bool :=
  eqD StT (Prod.fst a0, bitop BinOp.and IntKind.i64 (Prod.fst (Prod.snd a0)) (15 : Int), Prod.snd (Prod.snd a0)) (Prod.fst a1, bitop BinOp.and IntKind.i64 (Prod.fst (Prod.snd a1)) (15 : Int), Prod.snd (Prod.snd a1))
theorem state_Same.nice {R : Type} (a0 : List Int × Int × Bool × Unit) (a1 : List Int × Int × Bool × Unit) (ret : Bool → Option R) : state_Same.tree a0 a1 ret = ret (state_Same a0 a1) := by
  unfold state_Same.tree state_Same
  simp only [Bool.apply_cond ret]
def state_Same.ctr : Ctr := ctrOf [StT, StT] fun x => .ret [⟨Ty.bool, state_Same (x.1) (x.2.1)⟩]
theorem state_Same.known : Known Try.prog 11 state_Same.ctr :=
  known_plain state_Same.envOk mixed Try.func11 (by kernel_rfl) (by kernel_rfl) (noLoops (by kernel_rfl)) (noSpots (by kernel_rfl)) fun x rs h => by
    obtain ⟨a0, a1, u⟩ := x
    cases u
    simp only [Cmd.val_ret] at h
    exact (state_Same.eq a0 a1).trans ((state_Same.nice a0 a1 (fun r0 => some ([⟨Ty.bool, r0⟩] : List DVal))).trans h)

/-! ### ref12_New -/
def ref12_New.env : Env := envNil
theorem ref12_New.envOk : EnvOk Try.prog ref12_New.env := envOk_nil _
def ref12_New.C : Cfg := { rows := [], keep := [], adopt := [] }
def ref12_New.tree {R : Type} (a0 : Int) (a1 : Int) (ret : (List Int × Int × Bool × Unit) → Option R) : Option R :=
  ret ([(0 : Int), (0 : Int), (0 : Int), (0 : Int), (0 : Int), (0 : Int), (0 : Int), (0 : Int), (0 : Int), (0 : Int), (0 : Int), (0 : Int), (0 : Int), a1, (4294967295 : Int), a0], (0 : Int), false, ())
theorem ref12_New.eq (a0 : Int) (a1 : Int) : body Try.prog ref12_New.C ref12_New.env noL Try.f19 [⟨Ty.int IntKind.u32, a0⟩, ⟨Ty.int IntKind.u32, a1⟩] = ref12_New.tree a0 a1 (fun r0 => some ([⟨StT, r0⟩] : List DVal)) := by kernel_rfl
def ref12_New (a0 : Int) (a1 : Int) : (List Int × Int × Bool × Unit) :=
  ([(0 : Int), (0 : Int), (0 : Int), (0 : Int), (0 : Int), (0 : Int), (0 : Int), (0 : Int), (0 : Int), (0 : Int), (0 : Int), (0 : Int), (0 : Int), a1, (4294967295 : Int), a0], (0 : Int), false, ())
theorem ref12_New.nice {R : Type} (a0 : Int) (a1 : Int) (ret : (List Int × Int × Bool × Unit) → Option R) : ref12_New.tree a0 a1 ret = ret (ref12_New a0 a1) := by
  unfold ref12_New.tree ref12_New
  simp only [Bool.apply_cond ret]
def ref12_New.ctr : Ctr := ctrOf [Ty.int IntKind.u32, Ty.int IntKind.u32] fun x => .ret [⟨StT, ref12_New (x.1) (x.2.1)⟩]
theorem ref12_New.known : Known Try.prog 19 ref12_New.ctr :=
  known_plain ref12_New.envOk mixed Try.func19 (by kernel_rfl) (by kernel_rfl) (noLoops (by kernel_rfl)) (noSpots (by kernel_rfl)) fun x rs h => by
    obtain ⟨a0, a1, u⟩ := x
    cases u
    simp only [Cmd.val_ret] at h
    exact (ref12_New.eq a0 a1).trans ((ref12_New.nice a0 a1 (fun r0 => some ([⟨StT, r0⟩] : List DVal))).trans h)

/-! ### ref12_Same -/
def ref12_Same.env : Env := envNil
theorem ref12_Same.envOk : EnvOk Try.prog ref12_Same.env := envOk_nil _
def ref12_Same.T2000001 : Tm := ⟨fill 0 26 [(2, Sl.ptr (2 : Nat) []), (3, Sl.ptr (3 : Nat) [])], [{ k := (2 : Nat), t := StT, vir := false }, { k := (3 : Nat), t := StT, vir := false }]⟩
def ref12_Same.X2000001_normal : Tm := ⟨fill 0 26 [(4, Sl.data Ty.bool)], []⟩
def ref12_Same.o2000001 {R : Type} (v0 : List Int × Int × Bool × Unit) (v1 : List Int × Int × Bool × Unit) (knormal : Bool → Option R) : Option R :=
  bif eqD (Ty.arr (16 : Nat) (Ty.int IntKind.u32)) (Prod.fst v0) (Prod.fst v1) then bif bitop BinOp.and IntKind.i64 (Prod.fst (Prod.snd v0)) (15 : Int) == bitop BinOp.and IntKind.i64 (Prod.fst (Prod.snd v1)) (15 : Int) then knormal (eqD Ty.bool (Prod.fst (Prod.snd (Prod.snd v0))) (Prod.fst (Prod.snd (Prod.snd v1)))) else knormal false else knormal false
def ref12_Same.s2000001 {R : Type} (v0 : List Int × Int × Bool × Unit) (v1 : List Int × Int × Bool × Unit) (knormal : Bool → Option R) : Option R :=
  knormal (eqD (Ty.arr (16 : Nat) (Ty.int IntKind.u32)) (Prod.fst v0) (Prod.fst v1) && (bitop BinOp.and IntKind.i64 (Prod.fst (Prod.snd v0)) (15 : Int) == bitop BinOp.and IntKind.i64 (Prod.fst (Prod.snd v1)) (15 : Int) && eqD Ty.bool (Prod.fst (Prod.snd (Prod.snd v0))) (Prod.fst (Prod.snd (Prod.snd v1)))))
theorem ref12_Same.s2000001_eq {R : Type} (v0 : List Int × Int × Bool × Unit) (v1 : List Int × Int × Bool × Unit) (knormal : Bool → Option R) : ref12_Same.s2000001 v0 v1 knormal = ref12_Same.o2000001 v0 v1 knormal := by
  unfold ref12_Same.s2000001 ref12_Same.o2000001
  (cases hc : eqD (Ty.arr (16 : Nat) (Ty.int IntKind.u32)) (Prod.fst v0) (Prod.fst v1) with | false => rfl | true => (cases hc : bitop BinOp.and IntKind.i64 (Prod.fst (Prod.snd v0)) (15 : Int) == bitop BinOp.and IntKind.i64 (Prod.fst (Prod.snd v1)) (15 : Int) with | false => rfl | true => rfl))
def ref12_Same.C : Cfg := { rows := [], keep := [(2000001, [2, 3], [2, 3]), (12000001, [4], [])], adopt := [] }
def ref12_Same.sum2000001 : FrV ref12_Same.T2000001.fr × StV ref12_Same.T2000001.st → (Ex → S → Option (List DVal)) → Option (List DVal) := fun ((()), (v0, v1, ())) K => ref12_Same.s2000001 v0 v1 (fun e0 => K .normal (pack ref12_Same.X2000001_normal ((e0, ()), (()))))
def ref12_Same.L : Nat → Option Sum := fun i => if i = 2000001 then some (sumOf ref12_Same.T2000001 ref12_Same.sum2000001) else none
theorem ref12_Same.x2000001 : ∀ v (K : Ex → S → Option (List DVal)), exec1 Try.prog ref12_Same.C ref12_Same.env ref12_Same.L (spotOf Try.f12 2000001).2.1 (spotOf Try.f12 2000001).2.2 (pack ref12_Same.T2000001 v) (fun e s' => K e (trim ref12_Same.C (2000001 + 10000000) s')) = (fun (((()), (v0, v1, ())) : FrV ref12_Same.T2000001.fr × StV ref12_Same.T2000001.st) => ref12_Same.o2000001 v0 v1 (fun e0 => K .normal (pack ref12_Same.X2000001_normal ((e0, ()), (()))))) v :=
  fun ((()), (v0, v1, ())) K => by kernel_rfl
theorem ref12_Same.sum2000001_ok : SpotOk Try.prog ref12_Same.C ref12_Same.env ref12_Same.L (spotOf Try.f12 2000001) := spotOk_of (T := ref12_Same.T2000001) (q := 2000001) (f := ref12_Same.sum2000001) (by kernel_rfl) (by kernel_rfl) fun ((()), (v0, v1, ())) K r h => (ref12_Same.x2000001 _ K).trans ((ref12_Same.s2000001_eq v0 v1 (fun e0 => K .normal (pack ref12_Same.X2000001_normal ((e0, ()), (()))))).symm.trans h)
def ref12_Same.tree {R : Type} (a0 : List Int × Int × Bool × Unit) (a1 : List Int × Int × Bool × Unit) (ret : Bool → Option R) : Option R :=
  ret (eqD (Ty.arr (16 : Nat) (Ty.int IntKind.u32)) (Prod.fst a0) (Prod.fst a1) && (bitop BinOp.and IntKind.i64 (Prod.fst (Prod.snd a0)) (15 : Int) == bitop BinOp.and IntKind.i64 (Prod.fst (Prod.snd a1)) (15 : Int) && eqD Ty.bool (Prod.fst (Prod.snd (Prod.snd a0))) (Prod.fst (Prod.snd (Prod.snd a1)))))
theorem ref12_Same.eq (a0 : List Int × Int × Bool × Unit) (a1 : List Int × Int × Bool × Unit) : body Try.prog ref12_Same.C ref12_Same.env ref12_Same.L Try.f12 [⟨StT, a0⟩, ⟨StT, a1⟩] = ref12_Same.tree a0 a1 (fun r0 => some ([⟨Ty.bool, r0⟩] : List DVal)) := by kernel_rfl
def ref12_Same (a0 : List Int × Int × Bool × Unit) (a1 : List Int × Int × Bool × Unit) : Bool :=
  eqD (Ty.arr (16 : Nat) (Ty.int IntKind.u32)) (Prod.fst a0) (Prod.fst a1) && (bitop BinOp.and IntKind.i64 (Prod.fst (Prod.snd a0)) (15 : Int) == bitop BinOp.and IntKind.i64 (Prod.fst (Prod.snd a1)) (15 : Int) && eqD Ty.bool (Prod.fst (Prod.snd (Prod.snd a0))) (Prod.fst (Prod.snd (Prod.snd a1))))
theorem ref12_Same.nice {R : Type} (a0 : List Int × Int × Bool × Unit) (a1 : List Int × Int × Bool × Unit) (ret : Bool → Option R) : ref12_Same.tree a0 a1 ret = ret (ref12_Same a0 a1) := by
  unfold ref12_Same.tree ref12_Same
  simp only [Bool.apply_cond ret]
def ref12_Same.ctr : Ctr := ctrOf [StT, StT] fun x => .ret [⟨Ty.bool, ref12_Same (x.1) (x.2.1)⟩]
theorem ref12_Same.known : Known Try.prog 12 ref12_Same.ctr :=
  known_plain ref12_Same.envOk mixed Try.func12 (by kernel_rfl) (by kernel_rfl) (noLoops (by kernel_rfl)) (bySpot (ids := [2000001]) (by kernel_rfl) (by intro q hq; simp only [List.mem_cons, List.not_mem_nil, or_false] at hq; subst hq; first | exact ref12_Same.sum2000001_ok)) fun x rs h => by
    obtain ⟨a0, a1, u⟩ := x
    cases u
    simp only [Cmd.val_ret] at h
    exact (ref12_Same.eq a0 a1).trans ((ref12_Same.nice a0 a1 (fun r0 => some ([⟨Ty.bool, r0⟩] : List DVal))).trans h)

/-! ### state_Pack -/
def state_Pack.env : Env := envNil
theorem state_Pack.envOk : EnvOk Try.prog state_Pack.env := envOk_nil _
def state_Pack.C : Cfg := { rows := [], keep := [], adopt := [] }
def state_Pack.tree {R : Type} (a0 : List Int × Int × Bool × Unit) (ret : (List Int) → Option R) : Option R :=
  ret (List.set (List.take (32 : Nat) (Prod.fst a0) ++ List.drop (List.length (List.take (32 : Nat) (Prod.fst a0))) (DObj.x { t := Ty.arr (32 : Nat) (Ty.int IntKind.u32), x := List.replicate (32 : Nat) (0 : Int), vir := false })) (16 : Nat) (IntKind.wrap IntKind.u32 (bitop BinOp.and IntKind.i64 (Prod.fst (Prod.snd a0)) (15 : Int))))
theorem state_Pack.eq (a0 : List Int × Int × Bool × Unit) : body Try.prog state_Pack.C state_Pack.env noL Try.f13 [⟨StT, a0⟩] = state_Pack.tree a0 (fun r0 => some ([⟨Ty.arr (32 : Nat) (Ty.int IntKind.u32), r0⟩] : List DVal)) := by kernel_rfl
def state_Pack (a0 : List Int × Int × Bool × Unit) : (List Int) :=
  List.set (List.take (32 : Nat) (Prod.fst a0) ++ List.drop (List.length (List.take (32 : Nat) (Prod.fst a0))) (DObj.x { t := Ty.arr (32 : Nat) (Ty.int IntKind.u32), x := List.replicate (32 : Nat) (0 : Int), vir := false })) (16 : Nat) (IntKind.wrap IntKind.u32 (bitop BinOp.and IntKind.i64 (Prod.fst (Prod.snd a0)) (15 : Int)))
theorem state_Pack.nice {R : Type} (a0 : List Int × Int × Bool × Unit) (ret : (List Int) → Option R) : state_Pack.tree a0 ret = ret (state_Pack a0) := by
  unfold state_Pack.tree state_Pack
  simp only [Bool.apply_cond ret]
def state_Pack.ctr : Ctr := ctrOf [StT] fun x => .ret [⟨Ty.arr (32 : Nat) (Ty.int IntKind.u32), state_Pack (x.1)⟩]
theorem state_Pack.known : Known Try.prog 13 state_Pack.ctr :=
  known_plain state_Pack.envOk mixed Try.func13 (by kernel_rfl) (by kernel_rfl) (noLoops (by kernel_rfl)) (noSpots (by kernel_rfl)) fun x rs h => by
    obtain ⟨a0, u⟩ := x
    cases u
    simp only [Cmd.val_ret] at h
    exact (state_Pack.eq a0).trans ((state_Pack.nice a0 (fun r0 => some ([⟨Ty.arr (32 : Nat) (Ty.int IntKind.u32), r0⟩] : List DVal))).trans h)

/-! ### state_Unpack -/
def state_Unpack.env : Env := envNil
theorem state_Unpack.envOk : EnvOk Try.prog state_Unpack.env := envOk_nil _
def state_Unpack.C : Cfg := { rows := [], keep := [], adopt := [] }
def state_Unpack.tree {R : Type} (a0 : List Int) (a1 : Bool) (ret : (List Int × Int × Bool × Unit) → Option R) : Option R :=
  ret (List.take (16 : Nat) a0 ++ List.drop (List.length (List.take (16 : Nat) a0)) (List.replicate (16 : Nat) (0 : Int)), IntKind.wrap IntKind.i64 (bitop BinOp.and IntKind.u32 (List.getD a0 (16 : Nat) (0 : Int)) (15 : Int)), a1, ())
theorem state_Unpack.eq (a0 : List Int) (a1 : Bool) : body Try.prog state_Unpack.C state_Unpack.env noL Try.f17 [⟨Ty.arr (32 : Nat) (Ty.int IntKind.u32), a0⟩, ⟨Ty.bool, a1⟩] = state_Unpack.tree a0 a1 (fun r0 => some ([⟨StT, r0⟩] : List DVal)) := by kernel_rfl
def state_Unpack (a0 : List Int) (a1 : Bool) : (List Int × Int × Bool × Unit) :=
  (List.take (16 : Nat) a0 ++ List.drop (List.length (List.take (16 : Nat) a0)) (List.replicate (16 : Nat) (0 : Int)), IntKind.wrap IntKind.i64 (bitop BinOp.and IntKind.u32 (List.getD a0 (16 : Nat) (0 : Int)) (15 : Int)), a1, ())
theorem state_Unpack.nice {R : Type} (a0 : List Int) (a1 : Bool) (ret : (List Int × Int × Bool × Unit) → Option R) : state_Unpack.tree a0 a1 ret = ret (state_Unpack a0 a1) := by
  unfold state_Unpack.tree state_Unpack
  simp only [Bool.apply_cond ret]
def state_Unpack.ctr : Ctr := ctrOf [Ty.arr (32 : Nat) (Ty.int IntKind.u32), Ty.bool] fun x => .ret [⟨StT, state_Unpack (x.1) (x.2.1)⟩]
theorem state_Unpack.known : Known Try.prog 17 state_Unpack.ctr :=
  known_plain state_Unpack.envOk mixed Try.func17 (by kernel_rfl) (by kernel_rfl) (noLoops (by kernel_rfl)) (noSpots (by kernel_rfl)) fun x rs h => by
    obtain ⟨a0, a1, u⟩ := x
    cases u
    simp only [Cmd.val_ret] at h
    exact (state_Unpack.eq a0 a1).trans ((state_Unpack.nice a0 a1 (fun r0 => some ([⟨StT, r0⟩] : List DVal))).trans h)

/-! ### ref12_Pack -/
def ref12_Pack.env : Env := envNil
theorem ref12_Pack.envOk : EnvOk Try.prog ref12_Pack.env := envOk_nil _
def ref12_Pack.T0 : Tm := ⟨fill 0 21 [(1, Sl.ptr (1 : Nat) []), (2, Sl.ptr (2 : Nat) []), (3, Sl.ptr (3 : Nat) []), (4, Sl.data (Ty.int IntKind.i64))], [{ k := (1 : Nat), t := StT, vir := false }, { k := (2 : Nat), t := Ty.arr (32 : Nat) (Ty.int IntKind.u32), vir := false }, { k := (3 : Nat), t := Ty.arr (32 : Nat) (Ty.int IntKind.u32), vir := false }]⟩
def ref12_Pack.X0_exit0 : Tm := ⟨fill 0 21 [(1, Sl.ptr (1 : Nat) []), (2, Sl.ptr (2 : Nat) []), (3, Sl.ptr (3 : Nat) [])], [{ k := (1 : Nat), t := StT, vir := false }, { k := (2 : Nat), t := Ty.arr (32 : Nat) (Ty.int IntKind.u32), vir := false }, { k := (3 : Nat), t := Ty.arr (32 : Nat) (Ty.int IntKind.u32), vir := false }]⟩
def ref12_Pack.round0 {R : Type} (v0 : Int) (v1 : List Int × Int × Bool × Unit) (v2 : List Int) (v3 : List Int) (next : Int → (List Int × Int × Bool × Unit) → (List Int) → (List Int) → Option R) (kexit0 : (List Int × Int × Bool × Unit) → (List Int) → (List Int) → Option R) : Option R :=
  bif decide (v0 < (16 : Int)) then bif decide ((0 : Int) ≤ v0) && decide (v0 < (16 : Int)) then bif decide ((0 : Int) ≤ v0) && decide (v0 < (32 : Int)) then next (IntKind.wrap IntKind.i64 (v0 + (1 : Int))) v1 v2 (List.set v3 (Int.toNat v0) (List.getD (Prod.fst v1) (Int.toNat v0) (0 : Int))) else none else none else kexit0 v1 v2 v3
def ref12_Pack.R0 {R : Type} (kexit0 : (List Int × Int × Bool × Unit) → (List Int) → (List Int) → Option R) : (Int × (List Int × Int × Bool × Unit) × (List Int) × (List Int)) → ((Int × (List Int × Int × Bool × Unit) × (List Int) × (List Int)) → Option R) → Option R := fun (v0, v1, v2, v3) next => ref12_Pack.round0 v0 v1 v2 v3 (fun w0 w1 w2 w3 => next (w0, w1, w2, w3)) kexit0
theorem ref12_Pack.R0_eq {R : Type} (kexit0 : (List Int × Int × Bool × Unit) → (List Int) → (List Int) → Option R) (v0 : Int) (v1 : List Int × Int × Bool × Unit) (v2 : List Int) (v3 : List Int) (next : (Int × (List Int × Int × Bool × Unit) × (List Int) × (List Int)) → Option R) : ref12_Pack.R0 kexit0 (v0, v1, v2, v3) next = ref12_Pack.round0 v0 v1 v2 v3 (fun w0 w1 w2 w3 => next (w0, w1, w2, w3)) kexit0 := rfl
def ref12_Pack.loop0 {R : Type} (v0 : Int) (v1 : List Int × Int × Bool × Unit) (v2 : List Int) (v3 : List Int) (kexit0 : (List Int × Int × Bool × Unit) → (List Int) → (List Int) → Option R) : Option R := lp (ref12_Pack.R0 kexit0) 17 (v0, v1, v2, v3)
theorem ref12_Pack.loop0_ok {R : Type} (v0 : Int) (v1 : List Int × Int × Bool × Unit) (v2 : List Int) (v3 : List Int) (kexit0 : (List Int × Int × Bool × Unit) → (List Int) → (List Int) → Option R) (r : R) (h : ref12_Pack.loop0 v0 v1 v2 v3 kexit0 = some r) : ∃ n, lp (ref12_Pack.R0 kexit0) n (v0, v1, v2, v3) = some r := ⟨17, h⟩
def ref12_Pack.C : Cfg := { rows := [], keep := [(0, [1, 2, 3, 4], [1, 2, 3]), (1000000, [1, 2, 3], [1, 2, 3])], adopt := [] }
def ref12_Pack.sum0 : FrV ref12_Pack.T0.fr × StV ref12_Pack.T0.st → (Ex → S → Option (List DVal)) → Option (List DVal) := fun ((v0, ()), (v1, v2, v3, ())) K => ref12_Pack.loop0 v0 v1 v2 v3 (fun e0 e1 e2 => K (.exit 0) (pack ref12_Pack.X0_exit0 ((()), (e0, e1, e2, ()))))
def ref12_Pack.rnd0 : FrV ref12_Pack.T0.fr × StV ref12_Pack.T0.st → (FrV ref12_Pack.T0.fr × StV ref12_Pack.T0.st → Option (List DVal)) → (Ex → S → Option (List DVal)) → Option (List DVal) := fun ((v0, ()), (v1, v2, v3, ())) next K => ref12_Pack.round0 v0 v1 v2 v3 (fun w0 w1 w2 w3 => next ((w0, ()), (w1, w2, w3, ()))) (fun e0 e1 e2 => K (.exit 0) (pack ref12_Pack.X0_exit0 ((()), (e0, e1, e2, ()))))
def ref12_Pack.L : Nat → Option Sum := fun i => if i = 0 then some (sumOf ref12_Pack.T0 ref12_Pack.sum0) else none
theorem ref12_Pack.rnd0_eq : ∀ v (r : S → Option (List DVal)) (K : Ex → S → Option (List DVal)), exec Try.prog ref12_Pack.C ref12_Pack.env ref12_Pack.L 0 (loopOf Try.f14 0) (pack ref12_Pack.T0 v) (fun e s' => match e with | .normal => r (trim ref12_Pack.C 0 s') | e => K e (trim ref12_Pack.C (0 + 1000000) s')) = ref12_Pack.rnd0 v (fun v' => r (pack ref12_Pack.T0 v')) K :=
  fun ((v0, ()), (v1, v2, v3, ())) r K => by kernel_rfl
theorem ref12_Pack.lp0 (K : Ex → S → Option (List DVal)) : ∀ (n : Nat) (v0 : Int) (v1 : List Int × Int × Bool × Unit) (v2 : List Int) (v3 : List Int), lp (fun v next => ref12_Pack.rnd0 v next K) n ((v0, ()), (v1, v2, v3, ())) = lp (ref12_Pack.R0 (fun e0 e1 e2 => K (.exit 0) (pack ref12_Pack.X0_exit0 ((()), (e0, e1, e2, ()))))) n (v0, v1, v2, v3) := by
  intro n
  induction n with
  | zero => intros; rfl
  | succ n ih =>
    intro v0 v1 v2 v3
    show ref12_Pack.round0 v0 v1 v2 v3 (fun w0 w1 w2 w3 => lp (fun v next => ref12_Pack.rnd0 v next K) n ((w0, ()), (w1, w2, w3, ()))) (fun e0 e1 e2 => K (.exit 0) (pack ref12_Pack.X0_exit0 ((()), (e0, e1, e2, ())))) = ref12_Pack.round0 v0 v1 v2 v3 (fun w0 w1 w2 w3 => lp (ref12_Pack.R0 (fun e0 e1 e2 => K (.exit 0) (pack ref12_Pack.X0_exit0 ((()), (e0, e1, e2, ()))))) n (w0, w1, w2, w3)) (fun e0 e1 e2 => K (.exit 0) (pack ref12_Pack.X0_exit0 ((()), (e0, e1, e2, ()))))
    simp only [ih]
theorem ref12_Pack.sum0_ok : SumOk Try.prog ref12_Pack.C ref12_Pack.env ref12_Pack.L 0 (loopOf Try.f14 0) := sumOk_lp (T := ref12_Pack.T0) (rnd := ref12_Pack.rnd0) (f := ref12_Pack.sum0) rfl ref12_Pack.rnd0_eq fun ((v0, ()), (v1, v2, v3, ())) K r h => by
  obtain ⟨n, hn⟩ := ref12_Pack.loop0_ok v0 v1 v2 v3 (fun e0 e1 e2 => K (.exit 0) (pack ref12_Pack.X0_exit0 ((()), (e0, e1, e2, ())))) r h
  exact ⟨n, by rw [ref12_Pack.lp0]; exact hn⟩
def ref12_Pack.tree {R : Type} (a0 : List Int × Int × Bool × Unit) (ret : (List Int) → Option R) : Option R :=
  ref12_Pack.loop0 (0 : Int) a0 (List.replicate (32 : Nat) (0 : Int)) (List.replicate (32 : Nat) (0 : Int)) fun e0 e1 e2 => ret (List.set e2 (16 : Nat) (IntKind.wrap IntKind.u32 (bitop BinOp.and IntKind.i64 (Prod.fst (Prod.snd e0)) (15 : Int))))
theorem ref12_Pack.eq (a0 : List Int × Int × Bool × Unit) : body Try.prog ref12_Pack.C ref12_Pack.env ref12_Pack.L Try.f14 [⟨StT, a0⟩] = ref12_Pack.tree a0 (fun r0 => some ([⟨Ty.arr (32 : Nat) (Ty.int IntKind.u32), r0⟩] : List DVal)) := by kernel_rfl
def ref12_Pack.pre (s : Sta) : Bool := s.1.length == 16
def ref12_Pack (s : Sta) : List Int := state_Pack s
theorem ref12_Pack.nice {R : Type} (s : Sta) (hp : ref12_Pack.pre s = true) (ret : List Int → Option R) : ref12_Pack.tree s ret = ret (ref12_Pack s) := by
  obtain ⟨l, f, h, u⟩ := s
  have hl : l.length = 16 := by simpa [ref12_Pack.pre] using hp
  clear hp
  obtain ⟨x0, x1, x2, x3, x4, x5, x6, x7, x8, x9, x10, x11, x12, x13, x14, x15, hl⟩ := len16 hl
  subst hl
  show ref12_Pack.tree (_, f, h, u) ret = ret (state_Pack (_, f, h, u))
  kernel_rfl
def ref12_Pack.ctr : Ctr := ctrOf [StT] fun x => .guard (ref12_Pack.pre (x.1)) (.ret [⟨Ty.arr (32 : Nat) (Ty.int IntKind.u32), ref12_Pack (x.1)⟩])
theorem ref12_Pack.known : Known Try.prog 14 ref12_Pack.ctr :=
  known_plain ref12_Pack.envOk mixed Try.func14 (by kernel_rfl) (by kernel_rfl) (byId (by kernel_rfl : loopIds Try.f14 = [0]) (by intro q hq; simp only [List.mem_cons, List.not_mem_nil, or_false] at hq; subst hq; first | exact ref12_Pack.sum0_ok)) (noSpots (by kernel_rfl)) fun x rs h => by
    obtain ⟨a0, u⟩ := x
    cases u
    simp only [Cmd.val_guard, Cmd.val_ret] at h
    split at h <;> try (cases h; done)
    rename_i hp
    exact (ref12_Pack.eq a0).trans ((ref12_Pack.nice a0 hp (fun r0 => some ([⟨Ty.arr (32 : Nat) (Ty.int IntKind.u32), r0⟩] : List DVal))).trans h)

/-! ### ref12_Unpack -/
def ref12_Unpack.env : Env := envNil
theorem ref12_Unpack.envOk : EnvOk Try.prog ref12_Unpack.env := envOk_nil _
def ref12_Unpack.T0 : Tm := ⟨fill 0 24 [(2, Sl.ptr (2 : Nat) []), (4, Sl.ptr (4 : Nat) []), (5, Sl.ptr (5 : Nat) []), (6, Sl.data (Ty.int IntKind.i64))], [{ k := (2 : Nat), t := Ty.arr (32 : Nat) (Ty.int IntKind.u32), vir := false }, { k := (4 : Nat), t := StT, vir := false }, { k := (5 : Nat), t := StT, vir := false }]⟩
def ref12_Unpack.X0_exit0 : Tm := ⟨fill 0 24 [(4, Sl.ptr (4 : Nat) []), (5, Sl.ptr (5 : Nat) [])], [{ k := (4 : Nat), t := StT, vir := false }, { k := (5 : Nat), t := StT, vir := false }]⟩
def ref12_Unpack.round0 {R : Type} (v0 : Int) (v1 : List Int) (v2 : List Int × Int × Bool × Unit) (v3 : List Int × Int × Bool × Unit) (next : Int → (List Int) → (List Int × Int × Bool × Unit) → (List Int × Int × Bool × Unit) → Option R) (kexit0 : (List Int × Int × Bool × Unit) → (List Int × Int × Bool × Unit) → Option R) : Option R :=
  bif decide (v0 < (16 : Int)) then bif decide ((0 : Int) ≤ v0) && decide (v0 < (32 : Int)) then bif decide ((0 : Int) ≤ v0) && decide (v0 < (16 : Int)) then next (IntKind.wrap IntKind.i64 (v0 + (1 : Int))) v1 v2 (List.set (Prod.fst v3) (Int.toNat v0) (List.getD v1 (Int.toNat v0) (0 : Int)), Prod.snd v3) else none else none else kexit0 v2 v3
def ref12_Unpack.R0 {R : Type} (kexit0 : (List Int × Int × Bool × Unit) → (List Int × Int × Bool × Unit) → Option R) : (Int × (List Int) × (List Int × Int × Bool × Unit) × (List Int × Int × Bool × Unit)) → ((Int × (List Int) × (List Int × Int × Bool × Unit) × (List Int × Int × Bool × Unit)) → Option R) → Option R := fun (v0, v1, v2, v3) next => ref12_Unpack.round0 v0 v1 v2 v3 (fun w0 w1 w2 w3 => next (w0, w1, w2, w3)) kexit0
theorem ref12_Unpack.R0_eq {R : Type} (kexit0 : (List Int × Int × Bool × Unit) → (List Int × Int × Bool × Unit) → Option R) (v0 : Int) (v1 : List Int) (v2 : List Int × Int × Bool × Unit) (v3 : List Int × Int × Bool × Unit) (next : (Int × (List Int) × (List Int × Int × Bool × Unit) × (List Int × Int × Bool × Unit)) → Option R) : ref12_Unpack.R0 kexit0 (v0, v1, v2, v3) next = ref12_Unpack.round0 v0 v1 v2 v3 (fun w0 w1 w2 w3 => next (w0, w1, w2, w3)) kexit0 := rfl
def ref12_Unpack.loop0 {R : Type} (v0 : Int) (v1 : List Int) (v2 : List Int × Int × Bool × Unit) (v3 : List Int × Int × Bool × Unit) (kexit0 : (List Int × Int × Bool × Unit) → (List Int × Int × Bool × Unit) → Option R) : Option R := lp (ref12_Unpack.R0 kexit0) 17 (v0, v1, v2, v3)
theorem ref12_Unpack.loop0_ok {R : Type} (v0 : Int) (v1 : List Int) (v2 : List Int × Int × Bool × Unit) (v3 : List Int × Int × Bool × Unit) (kexit0 : (List Int × Int × Bool × Unit) → (List Int × Int × Bool × Unit) → Option R) (r : R) (h : ref12_Unpack.loop0 v0 v1 v2 v3 kexit0 = some r) : ∃ n, lp (ref12_Unpack.R0 kexit0) n (v0, v1, v2, v3) = some r := ⟨17, h⟩
def ref12_Unpack.C : Cfg := { rows := [], keep := [(0, [2, 4, 5, 6], [2, 4, 5]), (1000000, [4, 5], [4, 5])], adopt := [] }
def ref12_Unpack.sum0 : FrV ref12_Unpack.T0.fr × StV ref12_Unpack.T0.st → (Ex → S → Option (List DVal)) → Option (List DVal) := fun ((v0, ()), (v1, v2, v3, ())) K => ref12_Unpack.loop0 v0 v1 v2 v3 (fun e0 e1 => K (.exit 0) (pack ref12_Unpack.X0_exit0 ((()), (e0, e1, ()))))
def ref12_Unpack.rnd0 : FrV ref12_Unpack.T0.fr × StV ref12_Unpack.T0.st → (FrV ref12_Unpack.T0.fr × StV ref12_Unpack.T0.st → Option (List DVal)) → (Ex → S → Option (List DVal)) → Option (List DVal) := fun ((v0, ()), (v1, v2, v3, ())) next K => ref12_Unpack.round0 v0 v1 v2 v3 (fun w0 w1 w2 w3 => next ((w0, ()), (w1, w2, w3, ()))) (fun e0 e1 => K (.exit 0) (pack ref12_Unpack.X0_exit0 ((()), (e0, e1, ()))))
def ref12_Unpack.L : Nat → Option Sum := fun i => if i = 0 then some (sumOf ref12_Unpack.T0 ref12_Unpack.sum0) else none
theorem ref12_Unpack.rnd0_eq : ∀ v (r : S → Option (List DVal)) (K : Ex → S → Option (List DVal)), exec Try.prog ref12_Unpack.C ref12_Unpack.env ref12_Unpack.L 0 (loopOf Try.f20 0) (pack ref12_Unpack.T0 v) (fun e s' => match e with | .normal => r (trim ref12_Unpack.C 0 s') | e => K e (trim ref12_Unpack.C (0 + 1000000) s')) = ref12_Unpack.rnd0 v (fun v' => r (pack ref12_Unpack.T0 v')) K :=
  fun ((v0, ()), (v1, v2, v3, ())) r K => by kernel_rfl
theorem ref12_Unpack.lp0 (K : Ex → S → Option (List DVal)) : ∀ (n : Nat) (v0 : Int) (v1 : List Int) (v2 : List Int × Int × Bool × Unit) (v3 : List Int × Int × Bool × Unit), lp (fun v next => ref12_Unpack.rnd0 v next K) n ((v0, ()), (v1, v2, v3, ())) = lp (ref12_Unpack.R0 (fun e0 e1 => K (.exit 0) (pack ref12_Unpack.X0_exit0 ((()), (e0, e1, ()))))) n (v0, v1, v2, v3) := by
  intro n
  induction n with
  | zero => intros; rfl
  | succ n ih =>
    intro v0 v1 v2 v3
    show ref12_Unpack.round0 v0 v1 v2 v3 (fun w0 w1 w2 w3 => lp (fun v next => ref12_Unpack.rnd0 v next K) n ((w0, ()), (w1, w2, w3, ()))) (fun e0 e1 => K (.exit 0) (pack ref12_Unpack.X0_exit0 ((()), (e0, e1, ())))) = ref12_Unpack.round0 v0 v1 v2 v3 (fun w0 w1 w2 w3 => lp (ref12_Unpack.R0 (fun e0 e1 => K (.exit 0) (pack ref12_Unpack.X0_exit0 ((()), (e0, e1, ()))))) n (w0, w1, w2, w3)) (fun e0 e1 => K (.exit 0) (pack ref12_Unpack.X0_exit0 ((()), (e0, e1, ()))))
    simp only [ih]
theorem ref12_Unpack.sum0_ok : SumOk Try.prog ref12_Unpack.C ref12_Unpack.env ref12_Unpack.L 0 (loopOf Try.f20 0) := sumOk_lp (T := ref12_Unpack.T0) (rnd := ref12_Unpack.rnd0) (f := ref12_Unpack.sum0) rfl ref12_Unpack.rnd0_eq fun ((v0, ()), (v1, v2, v3, ())) K r h => by
  obtain ⟨n, hn⟩ := ref12_Unpack.loop0_ok v0 v1 v2 v3 (fun e0 e1 => K (.exit 0) (pack ref12_Unpack.X0_exit0 ((()), (e0, e1, ())))) r h
  exact ⟨n, by rw [ref12_Unpack.lp0]; exact hn⟩
def ref12_Unpack.tree {R : Type} (a0 : List Int) (a1 : Bool) (ret : (List Int × Int × Bool × Unit) → Option R) : Option R :=
  ref12_Unpack.loop0 (0 : Int) a0 (List.replicate (16 : Nat) (0 : Int), (0 : Int), false, ()) (List.replicate (16 : Nat) (0 : Int), IntKind.wrap IntKind.i64 (bitop BinOp.and IntKind.u32 (List.getD a0 (16 : Nat) (0 : Int)) (15 : Int)), a1, ()) fun e0 e1 => ret e1
theorem ref12_Unpack.eq (a0 : List Int) (a1 : Bool) : body Try.prog ref12_Unpack.C ref12_Unpack.env ref12_Unpack.L Try.f20 [⟨Ty.arr (32 : Nat) (Ty.int IntKind.u32), a0⟩, ⟨Ty.bool, a1⟩] = ref12_Unpack.tree a0 a1 (fun r0 => some ([⟨StT, r0⟩] : List DVal)) := by kernel_rfl
def ref12_Unpack.pre (r : List Int) (h : Bool) : Bool := r.length == 32
def ref12_Unpack (r : List Int) (h : Bool) : Sta := state_Unpack r h
theorem ref12_Unpack.nice {R : Type} (r : List Int) (h : Bool) (hp : ref12_Unpack.pre r h = true) (ret : Sta → Option R) : ref12_Unpack.tree r h ret = ret (ref12_Unpack r h) := by
  have hl : r.length = 32 := by simpa [ref12_Unpack.pre] using hp
  clear hp
  obtain ⟨x0, x1, x2, x3, x4, x5, x6, x7, x8, x9, x10, x11, x12, x13, x14, x15, x16, x17, x18, x19, x20, x21, x22, x23, x24, x25, x26, x27, x28, x29, x30, x31, hl⟩ := len32 hl
  subst hl
  show ref12_Unpack.tree _ h ret = ret (state_Unpack _ h)
  kernel_rfl
def ref12_Unpack.ctr : Ctr := ctrOf [Ty.arr (32 : Nat) (Ty.int IntKind.u32), Ty.bool] fun x => .guard (ref12_Unpack.pre (x.1) (x.2.1)) (.ret [⟨StT, ref12_Unpack (x.1) (x.2.1)⟩])
theorem ref12_Unpack.known : Known Try.prog 20 ref12_Unpack.ctr :=
  known_plain ref12_Unpack.envOk mixed Try.func20 (by kernel_rfl) (by kernel_rfl) (byId (by kernel_rfl : loopIds Try.f20 = [0]) (by intro q hq; simp only [List.mem_cons, List.not_mem_nil, or_false] at hq; subst hq; first | exact ref12_Unpack.sum0_ok)) (noSpots (by kernel_rfl)) fun x rs h => by
    obtain ⟨a0, a1, u⟩ := x
    cases u
    simp only [Cmd.val_guard, Cmd.val_ret] at h
    split at h <;> try (cases h; done)
    rename_i hp
    exact (ref12_Unpack.eq a0 a1).trans ((ref12_Unpack.nice a0 a1 hp (fun r0 => some ([⟨StT, r0⟩] : List DVal))).trans h)

/-! ### state_Bytes -/
def state_Bytes.env : Env := envNil
theorem state_Bytes.envOk : EnvOk Try.prog state_Bytes.env := envOk_nil _
def state_Bytes.T0 : Tm := ⟨fill 0 41 [(1, Sl.ptr (1 : Nat) []), (3, Sl.ref (1003 : Nat)), (7, Sl.data (Ty.arr (16 : Nat) (Ty.int IntKind.u32))), (8, Sl.data (Ty.int IntKind.i64))], [{ k := (1 : Nat), t := StT, vir := false }, { k := (1003 : Nat), t := Ty.own (Ty.int IntKind.u8), vir := true }]⟩
def state_Bytes.X0_exit0 : Tm := ⟨fill 0 41 [(1, Sl.ptr (1 : Nat) []), (3, Sl.ref (1003 : Nat))], [{ k := (1 : Nat), t := StT, vir := false }, { k := (1003 : Nat), t := Ty.own (Ty.int IntKind.u8), vir := true }]⟩
def state_Bytes.round0 {R : Type} (v0 : List Int) (v1 : Int) (v2 : List Int × Int × Bool × Unit) (v3 : List Int) (next : (List Int) → Int → (List Int × Int × Bool × Unit) → (List Int) → Option R) (kexit0 : (List Int × Int × Bool × Unit) → (List Int) → Option R) : Option R :=
  bif decide (v1 < (16 : Int)) then bif decide ((0 : Int) ≤ v1) && decide (v1 < (16 : Int)) then bif roomOk (List.length v3 + (4 : Nat)) (1 : Nat) then next v0 (IntKind.wrap IntKind.i64 (v1 + (1 : Int))) v2 (v3 ++ [IntKind.wrap IntKind.u8 (List.getD v0 (Int.toNat v1) (0 : Int)), IntKind.wrap IntKind.u8 (shr IntKind.u32 (List.getD v0 (Int.toNat v1) (0 : Int)) (8 : Int)), IntKind.wrap IntKind.u8 (shr IntKind.u32 (List.getD v0 (Int.toNat v1) (0 : Int)) (16 : Int)), IntKind.wrap IntKind.u8 (shr IntKind.u32 (List.getD v0 (Int.toNat v1) (0 : Int)) (24 : Int))]) else none else none else kexit0 v2 v3
def state_Bytes.R0 {R : Type} (kexit0 : (List Int × Int × Bool × Unit) → (List Int) → Option R) : ((List Int) × Int × (List Int × Int × Bool × Unit) × (List Int)) → (((List Int) × Int × (List Int × Int × Bool × Unit) × (List Int)) → Option R) → Option R := fun (v0, v1, v2, v3) next => state_Bytes.round0 v0 v1 v2 v3 (fun w0 w1 w2 w3 => next (w0, w1, w2, w3)) kexit0
theorem state_Bytes.R0_eq {R : Type} (kexit0 : (List Int × Int × Bool × Unit) → (List Int) → Option R) (v0 : List Int) (v1 : Int) (v2 : List Int × Int × Bool × Unit) (v3 : List Int) (next : ((List Int) × Int × (List Int × Int × Bool × Unit) × (List Int)) → Option R) : state_Bytes.R0 kexit0 (v0, v1, v2, v3) next = state_Bytes.round0 v0 v1 v2 v3 (fun w0 w1 w2 w3 => next (w0, w1, w2, w3)) kexit0 := rfl
def state_Bytes.loop0 {R : Type} (v0 : List Int) (v1 : Int) (v2 : List Int × Int × Bool × Unit) (v3 : List Int) (kexit0 : (List Int × Int × Bool × Unit) → (List Int) → Option R) : Option R := lp (state_Bytes.R0 kexit0) 17 (v0, v1, v2, v3)
theorem state_Bytes.loop0_ok {R : Type} (v0 : List Int) (v1 : Int) (v2 : List Int × Int × Bool × Unit) (v3 : List Int) (kexit0 : (List Int × Int × Bool × Unit) → (List Int) → Option R) (r : R) (h : state_Bytes.loop0 v0 v1 v2 v3 kexit0 = some r) : ∃ n, lp (state_Bytes.R0 kexit0) n (v0, v1, v2, v3) = some r := ⟨17, h⟩
def state_Bytes.T3000009 : Tm := ⟨fill 0 41 [(3, Sl.ref (1003 : Nat)), (34, Sl.data Ty.bool)], [{ k := (1003 : Nat), t := Ty.own (Ty.int IntKind.u8), vir := true }]⟩
def state_Bytes.X3000009_normal : Tm := ⟨fill 0 41 [(3, Sl.ref (1003 : Nat))], [{ k := (1003 : Nat), t := Ty.own (Ty.int IntKind.u8), vir := true }]⟩
def state_Bytes.o3000009 {R : Type} (v0 : Bool) (v1 : List Int) (knormal : (List Int) → Option R) : Option R :=
  bif v0 then bif decide ((0 : Int) ≤ IntKind.wrap IntKind.i64 (↑(List.length v1) - (1 : Int))) && decide (IntKind.wrap IntKind.i64 (↑(List.length v1) - (1 : Int)) < ↑(List.length v1)) then bif decide ((0 : Nat) ≤ Int.toNat (IntKind.wrap IntKind.i64 (↑(List.length v1) - (1 : Int)))) then knormal (List.set v1 (Int.toNat (IntKind.wrap IntKind.i64 (↑(List.length v1) - (1 : Int)))) (1 : Int)) else none else none else knormal v1
def state_Bytes.s3000009 {R : Type} (v0 : Bool) (v1 : List Int) (knormal : (List Int) → Option R) : Option R :=
  bif !v0 || decide ((0 : Int) ≤ IntKind.wrap IntKind.i64 (↑(List.length v1) - (1 : Int))) && decide (IntKind.wrap IntKind.i64 (↑(List.length v1) - (1 : Int)) < ↑(List.length v1)) && decide ((0 : Nat) ≤ Int.toNat (IntKind.wrap IntKind.i64 (↑(List.length v1) - (1 : Int)))) then knormal (bif v0 then List.set v1 (Int.toNat (IntKind.wrap IntKind.i64 (↑(List.length v1) - (1 : Int)))) (1 : Int) else v1) else none
theorem state_Bytes.s3000009_eq {R : Type} (v0 : Bool) (v1 : List Int) (knormal : (List Int) → Option R) : state_Bytes.s3000009 v0 v1 knormal = state_Bytes.o3000009 v0 v1 knormal := by
  unfold state_Bytes.s3000009 state_Bytes.o3000009
  (cases hc : v0 with | false => rfl | true => (cases hc : decide ((0 : Int) ≤ IntKind.wrap IntKind.i64 (↑(List.length v1) - (1 : Int))) && decide (IntKind.wrap IntKind.i64 (↑(List.length v1) - (1 : Int)) < ↑(List.length v1)) with | false => rfl | true => (cases hc : decide ((0 : Nat) ≤ Int.toNat (IntKind.wrap IntKind.i64 (↑(List.length v1) - (1 : Int)))) with | false => rfl | true => rfl)))
def state_Bytes.C : Cfg := { rows := [], keep := [(0, [1, 3, 7, 8], [1, 1003]), (1000000, [1, 2, 3], [1, 1003]), (3000009, [3, 34], [1003]), (13000009, [3], [1003])], adopt := [(0, 3, 1003, Ty.int IntKind.u8)] }
def state_Bytes.sum3000009 : FrV state_Bytes.T3000009.fr × StV state_Bytes.T3000009.st → (Ex → S → Option (List DVal)) → Option (List DVal) := fun ((v0, ()), (v1, ())) K => state_Bytes.s3000009 v0 v1 (fun e0 => K .normal (pack state_Bytes.X3000009_normal ((()), (e0, ()))))
def state_Bytes.sum0 : FrV state_Bytes.T0.fr × StV state_Bytes.T0.st → (Ex → S → Option (List DVal)) → Option (List DVal) := fun ((v0, v1, ()), (v2, v3, ())) K => state_Bytes.loop0 v0 v1 v2 v3 (fun e0 e1 => K (.exit 0) (pack state_Bytes.X0_exit0 ((()), (e0, e1, ()))))
def state_Bytes.rnd0 : FrV state_Bytes.T0.fr × StV state_Bytes.T0.st → (FrV state_Bytes.T0.fr × StV state_Bytes.T0.st → Option (List DVal)) → (Ex → S → Option (List DVal)) → Option (List DVal) := fun ((v0, v1, ()), (v2, v3, ())) next K => state_Bytes.round0 v0 v1 v2 v3 (fun w0 w1 w2 w3 => next ((w0, w1, ()), (w2, w3, ()))) (fun e0 e1 => K (.exit 0) (pack state_Bytes.X0_exit0 ((()), (e0, e1, ()))))
def state_Bytes.L : Nat → Option Sum := fun i => if i = 0 then some (sumOf state_Bytes.T0 state_Bytes.sum0) else if i = 3000009 then some (sumOf state_Bytes.T3000009 state_Bytes.sum3000009) else none
theorem state_Bytes.rnd0_eq : ∀ v (r : S → Option (List DVal)) (K : Ex → S → Option (List DVal)), exec Try.prog state_Bytes.C state_Bytes.env state_Bytes.L 0 (loopOf Try.f15 0) (pack state_Bytes.T0 v) (fun e s' => match e with | .normal => r (trim state_Bytes.C 0 s') | e => K e (trim state_Bytes.C (0 + 1000000) s')) = state_Bytes.rnd0 v (fun v' => r (pack state_Bytes.T0 v')) K :=
  fun ((v0, v1, ()), (v2, v3, ())) r K => by kernel_rfl
theorem state_Bytes.lp0 (K : Ex → S → Option (List DVal)) : ∀ (n : Nat) (v0 : List Int) (v1 : Int) (v2 : List Int × Int × Bool × Unit) (v3 : List Int), lp (fun v next => state_Bytes.rnd0 v next K) n ((v0, v1, ()), (v2, v3, ())) = lp (state_Bytes.R0 (fun e0 e1 => K (.exit 0) (pack state_Bytes.X0_exit0 ((()), (e0, e1, ()))))) n (v0, v1, v2, v3) := by
  intro n
  induction n with
  | zero => intros; rfl
  | succ n ih =>
    intro v0 v1 v2 v3
    show state_Bytes.round0 v0 v1 v2 v3 (fun w0 w1 w2 w3 => lp (fun v next => state_Bytes.rnd0 v next K) n ((w0, w1, ()), (w2, w3, ()))) (fun e0 e1 => K (.exit 0) (pack state_Bytes.X0_exit0 ((()), (e0, e1, ())))) = state_Bytes.round0 v0 v1 v2 v3 (fun w0 w1 w2 w3 => lp (state_Bytes.R0 (fun e0 e1 => K (.exit 0) (pack state_Bytes.X0_exit0 ((()), (e0, e1, ()))))) n (w0, w1, w2, w3)) (fun e0 e1 => K (.exit 0) (pack state_Bytes.X0_exit0 ((()), (e0, e1, ()))))
    simp only [ih]
theorem state_Bytes.sum0_ok : SumOk Try.prog state_Bytes.C state_Bytes.env state_Bytes.L 0 (loopOf Try.f15 0) := sumOk_lp (T := state_Bytes.T0) (rnd := state_Bytes.rnd0) (f := state_Bytes.sum0) rfl state_Bytes.rnd0_eq fun ((v0, v1, ()), (v2, v3, ())) K r h => by
  obtain ⟨n, hn⟩ := state_Bytes.loop0_ok v0 v1 v2 v3 (fun e0 e1 => K (.exit 0) (pack state_Bytes.X0_exit0 ((()), (e0, e1, ())))) r h
  exact ⟨n, by rw [state_Bytes.lp0]; exact hn⟩
theorem state_Bytes.x3000009 : ∀ v (K : Ex → S → Option (List DVal)), exec1 Try.prog state_Bytes.C state_Bytes.env state_Bytes.L (spotOf Try.f15 3000009).2.1 (spotOf Try.f15 3000009).2.2 (pack state_Bytes.T3000009 v) (fun e s' => K e (trim state_Bytes.C (3000009 + 10000000) s')) = (fun (((v0, ()), (v1, ())) : FrV state_Bytes.T3000009.fr × StV state_Bytes.T3000009.st) => state_Bytes.o3000009 v0 v1 (fun e0 => K .normal (pack state_Bytes.X3000009_normal ((()), (e0, ()))))) v :=
  fun ((v0, ()), (v1, ())) K => by kernel_rfl
theorem state_Bytes.sum3000009_ok : SpotOk Try.prog state_Bytes.C state_Bytes.env state_Bytes.L (spotOf Try.f15 3000009) := spotOk_of (T := state_Bytes.T3000009) (q := 3000009) (f := state_Bytes.sum3000009) (by kernel_rfl) (by kernel_rfl) fun ((v0, ()), (v1, ())) K r h => (state_Bytes.x3000009 _ K).trans ((state_Bytes.s3000009_eq v0 v1 (fun e0 => K .normal (pack state_Bytes.X3000009_normal ((()), (e0, ()))))).symm.trans h)
def state_Bytes.tree {R : Type} (a0 : List Int × Int × Bool × Unit) (ret : (List Int) → Option R) : Option R :=
  state_Bytes.loop0 (Prod.fst a0) (0 : Int) a0 [] fun e0 e1 => bif roomOk (List.length e1 + (2 : Nat)) (1 : Nat) then bif !Prod.fst (Prod.snd (Prod.snd e0)) || decide ((0 : Int) ≤ IntKind.wrap IntKind.i64 (↑(List.length (e1 ++ [IntKind.wrap IntKind.u8 (bitop BinOp.and IntKind.i64 (Prod.fst (Prod.snd e0)) (15 : Int)), (0 : Int)])) - (1 : Int))) && decide (IntKind.wrap IntKind.i64 (↑(List.length (e1 ++ [IntKind.wrap IntKind.u8 (bitop BinOp.and IntKind.i64 (Prod.fst (Prod.snd e0)) (15 : Int)), (0 : Int)])) - (1 : Int)) < ↑(List.length (e1 ++ [IntKind.wrap IntKind.u8 (bitop BinOp.and IntKind.i64 (Prod.fst (Prod.snd e0)) (15 : Int)), (0 : Int)]))) && decide ((0 : Nat) ≤ Int.toNat (IntKind.wrap IntKind.i64 (↑(List.length (e1 ++ [IntKind.wrap IntKind.u8 (bitop BinOp.and IntKind.i64 (Prod.fst (Prod.snd e0)) (15 : Int)), (0 : Int)])) - (1 : Int)))) then ret (bif Prod.fst (Prod.snd (Prod.snd e0)) then List.set (e1 ++ [IntKind.wrap IntKind.u8 (bitop BinOp.and IntKind.i64 (Prod.fst (Prod.snd e0)) (15 : Int)), (0 : Int)]) (Int.toNat (IntKind.wrap IntKind.i64 (↑(List.length (e1 ++ [IntKind.wrap IntKind.u8 (bitop BinOp.and IntKind.i64 (Prod.fst (Prod.snd e0)) (15 : Int)), (0 : Int)])) - (1 : Int)))) (1 : Int) else e1 ++ [IntKind.wrap IntKind.u8 (bitop BinOp.and IntKind.i64 (Prod.fst (Prod.snd e0)) (15 : Int)), (0 : Int)]) else none else none
theorem state_Bytes.eq (a0 : List Int × Int × Bool × Unit) : body Try.prog state_Bytes.C state_Bytes.env state_Bytes.L Try.f15 [⟨StT, a0⟩] = state_Bytes.tree a0 (fun r0 => some ([⟨Ty.sl (Ty.int IntKind.u8), r0⟩] : List DVal)) := by kernel_rfl
def word4 (x : Int) : List Int := [IntKind.wrap .u8 x, IntKind.wrap .u8 (shr .u32 x 8), IntKind.wrap .u8 (shr .u32 x 16), IntKind.wrap .u8 (shr .u32 x 24)]
def state_Bytes.pre (s : Sta) : Bool := s.1.length == 16
def state_Bytes (s : Sta) : List Int := s.1.flatMap word4 ++ [IntKind.wrap .u8 (bitop .and .i64 s.2.1 15), bif s.2.2.1 then 1 else 0]
theorem state_Bytes.nice {R : Type} (s : Sta) (hp : state_Bytes.pre s = true) (ret : List Int → Option R) : state_Bytes.tree s ret = ret (state_Bytes s) := by
  obtain ⟨l, f, h, u⟩ := s
  have hl : l.length = 16 := by simpa [state_Bytes.pre] using hp
  clear hp
  obtain ⟨x0, x1, x2, x3, x4, x5, x6, x7, x8, x9, x10, x11, x12, x13, x14, x15, hl⟩ := len16 hl
  subst hl
  cases h with
  | false =>
    show state_Bytes.tree (_, f, false, u) ret = ret (state_Bytes (_, f, false, u))
    kernel_rfl
  | true =>
    show state_Bytes.tree (_, f, true, u) ret = ret (state_Bytes (_, f, true, u))
    kernel_rfl
def state_Bytes.ctr : Ctr := ctrOf [StT] fun x => .guard (state_Bytes.pre (x.1)) (.ret [⟨Ty.sl (Ty.int IntKind.u8), state_Bytes (x.1)⟩])
theorem state_Bytes.known : Known Try.prog 15 state_Bytes.ctr :=
  known_plain state_Bytes.envOk mixed Try.func15 (by kernel_rfl) (by kernel_rfl) (byId (by kernel_rfl : loopIds Try.f15 = [0]) (by intro q hq; simp only [List.mem_cons, List.not_mem_nil, or_false] at hq; subst hq; first | exact state_Bytes.sum0_ok)) (bySpot (ids := [3000009]) (by kernel_rfl) (by intro q hq; simp only [List.mem_cons, List.not_mem_nil, or_false] at hq; subst hq; first | exact state_Bytes.sum3000009_ok)) fun x rs h => by
    obtain ⟨a0, u⟩ := x
    cases u
    simp only [Cmd.val_guard, Cmd.val_ret] at h
    split at h <;> try (cases h; done)
    rename_i hp
    exact (state_Bytes.eq a0).trans ((state_Bytes.nice a0 hp (fun r0 => some ([⟨Ty.sl (Ty.int IntKind.u8), r0⟩] : List DVal))).trans h)

/-! ### ref12_Bytes -/
def ref12_Bytes.env : Env := envNil
theorem ref12_Bytes.envOk : EnvOk Try.prog ref12_Bytes.env := envOk_nil _
def ref12_Bytes.T2 : Tm := ⟨fill 0 36 [(1, Sl.ptr (1 : Nat) []), (3, Sl.ref (1003 : Nat)), (4, Sl.data (Ty.int IntKind.i64)), (5, Sl.data (Ty.int IntKind.i64))], [{ k := (1 : Nat), t := StT, vir := false }, { k := (1003 : Nat), t := Ty.own (Ty.int IntKind.u8), vir := true }]⟩
def ref12_Bytes.X2_exit2 : Tm := ⟨fill 0 36 [(1, Sl.ptr (1 : Nat) []), (3, Sl.ref (1003 : Nat)), (4, Sl.data (Ty.int IntKind.i64))], [{ k := (1 : Nat), t := StT, vir := false }, { k := (1003 : Nat), t := Ty.own (Ty.int IntKind.u8), vir := true }]⟩
def ref12_Bytes.round2 {R : Type} (v0 : Int) (v1 : Int) (v2 : List Int × Int × Bool × Unit) (v3 : List Int) (next : Int → Int → (List Int × Int × Bool × Unit) → (List Int) → Option R) (kexit2 : Int → (List Int × Int × Bool × Unit) → (List Int) → Option R) : Option R :=
  bif decide (v1 < (4 : Int)) then bif decide ((0 : Int) ≤ v0) && decide (v0 < (16 : Int)) then bif decide ((0 : Int) ≤ IntKind.wrap IntKind.i64 ((8 : Int) * v1)) then bif roomOk (List.length v3 + (1 : Nat)) (1 : Nat) then next v0 (IntKind.wrap IntKind.i64 (v1 + (1 : Int))) v2 (v3 ++ [IntKind.wrap IntKind.u8 (shr IntKind.u32 (List.getD (Prod.fst v2) (Int.toNat v0) (0 : Int)) (IntKind.wrap IntKind.i64 ((8 : Int) * v1)))]) else none else none else none else kexit2 v0 v2 v3
def ref12_Bytes.R2 {R : Type} (kexit2 : Int → (List Int × Int × Bool × Unit) → (List Int) → Option R) : (Int × Int × (List Int × Int × Bool × Unit) × (List Int)) → ((Int × Int × (List Int × Int × Bool × Unit) × (List Int)) → Option R) → Option R := fun (v0, v1, v2, v3) next => ref12_Bytes.round2 v0 v1 v2 v3 (fun w0 w1 w2 w3 => next (w0, w1, w2, w3)) kexit2
theorem ref12_Bytes.R2_eq {R : Type} (kexit2 : Int → (List Int × Int × Bool × Unit) → (List Int) → Option R) (v0 : Int) (v1 : Int) (v2 : List Int × Int × Bool × Unit) (v3 : List Int) (next : (Int × Int × (List Int × Int × Bool × Unit) × (List Int)) → Option R) : ref12_Bytes.R2 kexit2 (v0, v1, v2, v3) next = ref12_Bytes.round2 v0 v1 v2 v3 (fun w0 w1 w2 w3 => next (w0, w1, w2, w3)) kexit2 := rfl
def ref12_Bytes.loop2 {R : Type} (v0 : Int) (v1 : Int) (v2 : List Int × Int × Bool × Unit) (v3 : List Int) (kexit2 : Int → (List Int × Int × Bool × Unit) → (List Int) → Option R) : Option R := lp (ref12_Bytes.R2 kexit2) 5 (v0, v1, v2, v3)
theorem ref12_Bytes.loop2_ok {R : Type} (v0 : Int) (v1 : Int) (v2 : List Int × Int × Bool × Unit) (v3 : List Int) (kexit2 : Int → (List Int × Int × Bool × Unit) → (List Int) → Option R) (r : R) (h : ref12_Bytes.loop2 v0 v1 v2 v3 kexit2 = some r) : ∃ n, lp (ref12_Bytes.R2 kexit2) n (v0, v1, v2, v3) = some r := ⟨5, h⟩
def ref12_Bytes.T0 : Tm := ⟨fill 0 36 [(1, Sl.ptr (1 : Nat) []), (3, Sl.ref (1003 : Nat)), (4, Sl.data (Ty.int IntKind.i64))], [{ k := (1 : Nat), t := StT, vir := false }, { k := (1003 : Nat), t := Ty.own (Ty.int IntKind.u8), vir := true }]⟩
def ref12_Bytes.X0_exit0 : Tm := ⟨fill 0 36 [(1, Sl.ptr (1 : Nat) []), (3, Sl.ref (1003 : Nat))], [{ k := (1 : Nat), t := StT, vir := false }, { k := (1003 : Nat), t := Ty.own (Ty.int IntKind.u8), vir := true }]⟩
def ref12_Bytes.round0 {R : Type} (v0 : Int) (v1 : List Int × Int × Bool × Unit) (v2 : List Int) (next : Int → (List Int × Int × Bool × Unit) → (List Int) → Option R) (kexit0 : (List Int × Int × Bool × Unit) → (List Int) → Option R) : Option R :=
  bif decide (v0 < (16 : Int)) then ref12_Bytes.loop2 v0 (0 : Int) v1 v2 fun e0 e1 e2 => next (IntKind.wrap IntKind.i64 (e0 + (1 : Int))) e1 e2 else kexit0 v1 v2
def ref12_Bytes.R0 {R : Type} (kexit0 : (List Int × Int × Bool × Unit) → (List Int) → Option R) : (Int × (List Int × Int × Bool × Unit) × (List Int)) → ((Int × (List Int × Int × Bool × Unit) × (List Int)) → Option R) → Option R := fun (v0, v1, v2) next => ref12_Bytes.round0 v0 v1 v2 (fun w0 w1 w2 => next (w0, w1, w2)) kexit0
theorem ref12_Bytes.R0_eq {R : Type} (kexit0 : (List Int × Int × Bool × Unit) → (List Int) → Option R) (v0 : Int) (v1 : List Int × Int × Bool × Unit) (v2 : List Int) (next : (Int × (List Int × Int × Bool × Unit) × (List Int)) → Option R) : ref12_Bytes.R0 kexit0 (v0, v1, v2) next = ref12_Bytes.round0 v0 v1 v2 (fun w0 w1 w2 => next (w0, w1, w2)) kexit0 := rfl
def ref12_Bytes.loop0 {R : Type} (v0 : Int) (v1 : List Int × Int × Bool × Unit) (v2 : List Int) (kexit0 : (List Int × Int × Bool × Unit) → (List Int) → Option R) : Option R := lp (ref12_Bytes.R0 kexit0) 17 (v0, v1, v2)
theorem ref12_Bytes.loop0_ok {R : Type} (v0 : Int) (v1 : List Int × Int × Bool × Unit) (v2 : List Int) (kexit0 : (List Int × Int × Bool × Unit) → (List Int) → Option R) (r : R) (h : ref12_Bytes.loop0 v0 v1 v2 kexit0 = some r) : ∃ n, lp (ref12_Bytes.R0 kexit0) n (v0, v1, v2) = some r := ⟨17, h⟩
def ref12_Bytes.T3000011 : Tm := ⟨fill 0 36 [(1, Sl.ptr (1 : Nat) []), (3, Sl.ref (1003 : Nat)), (6, Sl.data (Ty.int IntKind.u8)), (27, Sl.data Ty.bool)], [{ k := (1 : Nat), t := StT, vir := false }, { k := (1003 : Nat), t := Ty.own (Ty.int IntKind.u8), vir := true }]⟩
def ref12_Bytes.X3000011_normal : Tm := ⟨fill 0 36 [(1, Sl.ptr (1 : Nat) []), (3, Sl.ref (1003 : Nat)), (6, Sl.data (Ty.int IntKind.u8))], [{ k := (1 : Nat), t := StT, vir := false }, { k := (1003 : Nat), t := Ty.own (Ty.int IntKind.u8), vir := true }]⟩
def ref12_Bytes.o3000011 {R : Type} (v0 : Int) (v1 : Bool) (v2 : List Int × Int × Bool × Unit) (v3 : List Int) (knormal : Int → (List Int × Int × Bool × Unit) → (List Int) → Option R) : Option R :=
  bif v1 then knormal (1 : Int) v2 v3 else knormal v0 v2 v3
def ref12_Bytes.s3000011 {R : Type} (v0 : Int) (v1 : Bool) (v2 : List Int × Int × Bool × Unit) (v3 : List Int) (knormal : Int → (List Int × Int × Bool × Unit) → (List Int) → Option R) : Option R :=
  knormal (bif v1 then (1 : Int) else v0) v2 v3
theorem ref12_Bytes.s3000011_eq {R : Type} (v0 : Int) (v1 : Bool) (v2 : List Int × Int × Bool × Unit) (v3 : List Int) (knormal : Int → (List Int × Int × Bool × Unit) → (List Int) → Option R) : ref12_Bytes.s3000011 v0 v1 v2 v3 knormal = ref12_Bytes.o3000011 v0 v1 v2 v3 knormal := by
  unfold ref12_Bytes.s3000011 ref12_Bytes.o3000011
  (cases hc : v1 with | false => rfl | true => rfl)
def ref12_Bytes.C : Cfg := { rows := [], keep := [(2, [1, 3, 4, 5], [1, 1003]), (1000002, [1, 2, 3, 4], [1, 1003]), (0, [1, 3, 4], [1, 1003]), (1000000, [1, 2, 3], [1, 1003]), (3000011, [1, 3, 6, 27], [1, 1003]), (13000011, [1, 3, 6], [1, 1003])], adopt := [(2, 3, 1003, Ty.int IntKind.u8), (0, 3, 1003, Ty.int IntKind.u8)] }
def ref12_Bytes.sum3000011 : FrV ref12_Bytes.T3000011.fr × StV ref12_Bytes.T3000011.st → (Ex → S → Option (List DVal)) → Option (List DVal) := fun ((v0, v1, ()), (v2, v3, ())) K => ref12_Bytes.s3000011 v0 v1 v2 v3 (fun e0 e1 e2 => K .normal (pack ref12_Bytes.X3000011_normal ((e0, ()), (e1, e2, ()))))
def ref12_Bytes.sum2 : FrV ref12_Bytes.T2.fr × StV ref12_Bytes.T2.st → (Ex → S → Option (List DVal)) → Option (List DVal) := fun ((v0, v1, ()), (v2, v3, ())) K => ref12_Bytes.loop2 v0 v1 v2 v3 (fun e0 e1 e2 => K (.exit 2) (pack ref12_Bytes.X2_exit2 ((e0, ()), (e1, e2, ()))))
def ref12_Bytes.rnd2 : FrV ref12_Bytes.T2.fr × StV ref12_Bytes.T2.st → (FrV ref12_Bytes.T2.fr × StV ref12_Bytes.T2.st → Option (List DVal)) → (Ex → S → Option (List DVal)) → Option (List DVal) := fun ((v0, v1, ()), (v2, v3, ())) next K => ref12_Bytes.round2 v0 v1 v2 v3 (fun w0 w1 w2 w3 => next ((w0, w1, ()), (w2, w3, ()))) (fun e0 e1 e2 => K (.exit 2) (pack ref12_Bytes.X2_exit2 ((e0, ()), (e1, e2, ()))))
def ref12_Bytes.sum0 : FrV ref12_Bytes.T0.fr × StV ref12_Bytes.T0.st → (Ex → S → Option (List DVal)) → Option (List DVal) := fun ((v0, ()), (v1, v2, ())) K => ref12_Bytes.loop0 v0 v1 v2 (fun e0 e1 => K (.exit 0) (pack ref12_Bytes.X0_exit0 ((()), (e0, e1, ()))))
def ref12_Bytes.rnd0 : FrV ref12_Bytes.T0.fr × StV ref12_Bytes.T0.st → (FrV ref12_Bytes.T0.fr × StV ref12_Bytes.T0.st → Option (List DVal)) → (Ex → S → Option (List DVal)) → Option (List DVal) := fun ((v0, ()), (v1, v2, ())) next K => ref12_Bytes.round0 v0 v1 v2 (fun w0 w1 w2 => next ((w0, ()), (w1, w2, ()))) (fun e0 e1 => K (.exit 0) (pack ref12_Bytes.X0_exit0 ((()), (e0, e1, ()))))
def ref12_Bytes.L : Nat → Option Sum := fun i => if i = 2 then some (sumOf ref12_Bytes.T2 ref12_Bytes.sum2) else if i = 0 then some (sumOf ref12_Bytes.T0 ref12_Bytes.sum0) else if i = 3000011 then some (sumOf ref12_Bytes.T3000011 ref12_Bytes.sum3000011) else none
theorem ref12_Bytes.rnd2_eq : ∀ v (r : S → Option (List DVal)) (K : Ex → S → Option (List DVal)), exec Try.prog ref12_Bytes.C ref12_Bytes.env ref12_Bytes.L 2 (loopOf Try.f16 2) (pack ref12_Bytes.T2 v) (fun e s' => match e with | .normal => r (trim ref12_Bytes.C 2 s') | e => K e (trim ref12_Bytes.C (2 + 1000000) s')) = ref12_Bytes.rnd2 v (fun v' => r (pack ref12_Bytes.T2 v')) K :=
  fun ((v0, v1, ()), (v2, v3, ())) r K => by kernel_rfl
theorem ref12_Bytes.lp2 (K : Ex → S → Option (List DVal)) : ∀ (n : Nat) (v0 : Int) (v1 : Int) (v2 : List Int × Int × Bool × Unit) (v3 : List Int), lp (fun v next => ref12_Bytes.rnd2 v next K) n ((v0, v1, ()), (v2, v3, ())) = lp (ref12_Bytes.R2 (fun e0 e1 e2 => K (.exit 2) (pack ref12_Bytes.X2_exit2 ((e0, ()), (e1, e2, ()))))) n (v0, v1, v2, v3) := by
  intro n
  induction n with
  | zero => intros; rfl
  | succ n ih =>
    intro v0 v1 v2 v3
    show ref12_Bytes.round2 v0 v1 v2 v3 (fun w0 w1 w2 w3 => lp (fun v next => ref12_Bytes.rnd2 v next K) n ((w0, w1, ()), (w2, w3, ()))) (fun e0 e1 e2 => K (.exit 2) (pack ref12_Bytes.X2_exit2 ((e0, ()), (e1, e2, ())))) = ref12_Bytes.round2 v0 v1 v2 v3 (fun w0 w1 w2 w3 => lp (ref12_Bytes.R2 (fun e0 e1 e2 => K (.exit 2) (pack ref12_Bytes.X2_exit2 ((e0, ()), (e1, e2, ()))))) n (w0, w1, w2, w3)) (fun e0 e1 e2 => K (.exit 2) (pack ref12_Bytes.X2_exit2 ((e0, ()), (e1, e2, ()))))
    simp only [ih]
theorem ref12_Bytes.sum2_ok : SumOk Try.prog ref12_Bytes.C ref12_Bytes.env ref12_Bytes.L 2 (loopOf Try.f16 2) := sumOk_lp (T := ref12_Bytes.T2) (rnd := ref12_Bytes.rnd2) (f := ref12_Bytes.sum2) rfl ref12_Bytes.rnd2_eq fun ((v0, v1, ()), (v2, v3, ())) K r h => by
  obtain ⟨n, hn⟩ := ref12_Bytes.loop2_ok v0 v1 v2 v3 (fun e0 e1 e2 => K (.exit 2) (pack ref12_Bytes.X2_exit2 ((e0, ()), (e1, e2, ())))) r h
  exact ⟨n, by rw [ref12_Bytes.lp2]; exact hn⟩
theorem ref12_Bytes.rnd0_eq : ∀ v (r : S → Option (List DVal)) (K : Ex → S → Option (List DVal)), exec Try.prog ref12_Bytes.C ref12_Bytes.env ref12_Bytes.L 0 (loopOf Try.f16 0) (pack ref12_Bytes.T0 v) (fun e s' => match e with | .normal => r (trim ref12_Bytes.C 0 s') | e => K e (trim ref12_Bytes.C (0 + 1000000) s')) = ref12_Bytes.rnd0 v (fun v' => r (pack ref12_Bytes.T0 v')) K :=
  fun ((v0, ()), (v1, v2, ())) r K => by kernel_rfl
theorem ref12_Bytes.lp0 (K : Ex → S → Option (List DVal)) : ∀ (n : Nat) (v0 : Int) (v1 : List Int × Int × Bool × Unit) (v2 : List Int), lp (fun v next => ref12_Bytes.rnd0 v next K) n ((v0, ()), (v1, v2, ())) = lp (ref12_Bytes.R0 (fun e0 e1 => K (.exit 0) (pack ref12_Bytes.X0_exit0 ((()), (e0, e1, ()))))) n (v0, v1, v2) := by
  intro n
  induction n with
  | zero => intros; rfl
  | succ n ih =>
    intro v0 v1 v2
    show ref12_Bytes.round0 v0 v1 v2 (fun w0 w1 w2 => lp (fun v next => ref12_Bytes.rnd0 v next K) n ((w0, ()), (w1, w2, ()))) (fun e0 e1 => K (.exit 0) (pack ref12_Bytes.X0_exit0 ((()), (e0, e1, ())))) = ref12_Bytes.round0 v0 v1 v2 (fun w0 w1 w2 => lp (ref12_Bytes.R0 (fun e0 e1 => K (.exit 0) (pack ref12_Bytes.X0_exit0 ((()), (e0, e1, ()))))) n (w0, w1, w2)) (fun e0 e1 => K (.exit 0) (pack ref12_Bytes.X0_exit0 ((()), (e0, e1, ()))))
    simp only [ih]
theorem ref12_Bytes.sum0_ok : SumOk Try.prog ref12_Bytes.C ref12_Bytes.env ref12_Bytes.L 0 (loopOf Try.f16 0) := sumOk_lp (T := ref12_Bytes.T0) (rnd := ref12_Bytes.rnd0) (f := ref12_Bytes.sum0) rfl ref12_Bytes.rnd0_eq fun ((v0, ()), (v1, v2, ())) K r h => by
  obtain ⟨n, hn⟩ := ref12_Bytes.loop0_ok v0 v1 v2 (fun e0 e1 => K (.exit 0) (pack ref12_Bytes.X0_exit0 ((()), (e0, e1, ())))) r h
  exact ⟨n, by rw [ref12_Bytes.lp0]; exact hn⟩
theorem ref12_Bytes.x3000011 : ∀ v (K : Ex → S → Option (List DVal)), exec1 Try.prog ref12_Bytes.C ref12_Bytes.env ref12_Bytes.L (spotOf Try.f16 3000011).2.1 (spotOf Try.f16 3000011).2.2 (pack ref12_Bytes.T3000011 v) (fun e s' => K e (trim ref12_Bytes.C (3000011 + 10000000) s')) = (fun (((v0, v1, ()), (v2, v3, ())) : FrV ref12_Bytes.T3000011.fr × StV ref12_Bytes.T3000011.st) => ref12_Bytes.o3000011 v0 v1 v2 v3 (fun e0 e1 e2 => K .normal (pack ref12_Bytes.X3000011_normal ((e0, ()), (e1, e2, ()))))) v :=
  fun ((v0, v1, ()), (v2, v3, ())) K => by kernel_rfl
theorem ref12_Bytes.sum3000011_ok : SpotOk Try.prog ref12_Bytes.C ref12_Bytes.env ref12_Bytes.L (spotOf Try.f16 3000011) := spotOk_of (T := ref12_Bytes.T3000011) (q := 3000011) (f := ref12_Bytes.sum3000011) (by kernel_rfl) (by kernel_rfl) fun ((v0, v1, ()), (v2, v3, ())) K r h => (ref12_Bytes.x3000011 _ K).trans ((ref12_Bytes.s3000011_eq v0 v1 v2 v3 (fun e0 e1 e2 => K .normal (pack ref12_Bytes.X3000011_normal ((e0, ()), (e1, e2, ()))))).symm.trans h)
def ref12_Bytes.tree {R : Type} (a0 : List Int × Int × Bool × Unit) (ret : (List Int) → Option R) : Option R :=
  ref12_Bytes.loop0 (0 : Int) a0 [] fun e0 e1 => bif roomOk (List.length e1 + (2 : Nat)) (1 : Nat) then ret (e1 ++ [IntKind.wrap IntKind.u8 (bitop BinOp.and IntKind.i64 (Prod.fst (Prod.snd e0)) (15 : Int)), bif Prod.fst (Prod.snd (Prod.snd e0)) then (1 : Int) else (0 : Int)]) else none
theorem ref12_Bytes.eq (a0 : List Int × Int × Bool × Unit) : body Try.prog ref12_Bytes.C ref12_Bytes.env ref12_Bytes.L Try.f16 [⟨StT, a0⟩] = ref12_Bytes.tree a0 (fun r0 => some ([⟨Ty.sl (Ty.int IntKind.u8), r0⟩] : List DVal)) := by kernel_rfl
def word4' (x : Int) : List Int := [IntKind.wrap .u8 (shr .u32 x 0), IntKind.wrap .u8 (shr .u32 x 8), IntKind.wrap .u8 (shr .u32 x 16), IntKind.wrap .u8 (shr .u32 x 24)]
def ref12_Bytes.pre (s : Sta) : Bool := s.1.length == 16
def ref12_Bytes (s : Sta) : List Int := s.1.flatMap word4' ++ [IntKind.wrap .u8 (bitop .and .i64 s.2.1 15), bif s.2.2.1 then 1 else 0]
theorem ref12_Bytes.nice {R : Type} (s : Sta) (hp : ref12_Bytes.pre s = true) (ret : List Int → Option R) : ref12_Bytes.tree s ret = ret (ref12_Bytes s) := by
  obtain ⟨l, f, h, u⟩ := s
  have hl : l.length = 16 := by simpa [ref12_Bytes.pre] using hp
  clear hp
  obtain ⟨x0, x1, x2, x3, x4, x5, x6, x7, x8, x9, x10, x11, x12, x13, x14, x15, hl⟩ := len16 hl
  subst hl
  cases h with
  | false =>
    show ref12_Bytes.tree (_, f, false, u) ret = ret (ref12_Bytes (_, f, false, u))
    kernel_rfl
  | true =>
    show ref12_Bytes.tree (_, f, true, u) ret = ret (ref12_Bytes (_, f, true, u))
    kernel_rfl
def ref12_Bytes.ctr : Ctr := ctrOf [StT] fun x => .guard (ref12_Bytes.pre (x.1)) (.ret [⟨Ty.sl (Ty.int IntKind.u8), ref12_Bytes (x.1)⟩])
theorem ref12_Bytes.known : Known Try.prog 16 ref12_Bytes.ctr :=
  known_plain ref12_Bytes.envOk mixed Try.func16 (by kernel_rfl) (by kernel_rfl) (byId (by kernel_rfl : loopIds Try.f16 = [0, 2]) (by intro q hq; simp only [List.mem_cons, List.not_mem_nil, or_false] at hq; rcases hq with rfl | rfl<;> first | exact ref12_Bytes.sum2_ok | exact ref12_Bytes.sum0_ok)) (bySpot (ids := [3000011]) (by kernel_rfl) (by intro q hq; simp only [List.mem_cons, List.not_mem_nil, or_false] at hq; subst hq; first | exact ref12_Bytes.sum3000011_ok)) fun x rs h => by
    obtain ⟨a0, u⟩ := x
    cases u
    simp only [Cmd.val_guard, Cmd.val_ret] at h
    split at h <;> try (cases h; done)
    rename_i hp
    exact (ref12_Bytes.eq a0).trans ((ref12_Bytes.nice a0 hp (fun r0 => some ([⟨Ty.sl (Ty.int IntKind.u8), r0⟩] : List DVal))).trans h)

/-! ### law12_known -/
def law12_known.env : Env := envCons 18 state_New.ctr <| envCons 13 state_Pack.ctr <| envCons 17 state_Unpack.ctr <| envCons 11 state_Same.ctr <| envCons 15 state_Bytes.ctr <| envNil
theorem law12_known.envOk : EnvOk Try.prog law12_known.env := envOk_cons state_New.known (envOk_cons state_Pack.known (envOk_cons state_Unpack.known (envOk_cons state_Same.known (envOk_cons state_Bytes.known (envOk_nil _)))))

def law12_known.C : Cfg := { rows := [], keep := [], adopt := [] }
def law12_known.tree {R : Type}  (ret : Bool → Option R) : Option R :=
  ret true
theorem law12_known.eq  : body Try.prog law12_known.C law12_known.env noL Try.f10 [] = law12_known.tree  (fun r0 => some ([⟨Ty.bool, r0⟩] : List DVal)) := by kernel_rfl
def law12_known  : Bool :=
  true
theorem law12_known.nice {R : Type}  (ret : Bool → Option R) : law12_known.tree  ret = ret (law12_known ) := by
  unfold law12_known.tree law12_known
  simp only [Bool.apply_cond ret]
def law12_known.ctr : Ctr := ctrOf [] fun x => .ret [⟨Ty.bool, law12_known ⟩]
theorem law12_known.known : Known Try.prog 10 law12_known.ctr :=
  known_plain law12_known.envOk mixed Try.func10 (by kernel_rfl) (by kernel_rfl) (noLoops (by kernel_rfl)) (noSpots (by kernel_rfl)) fun x rs h => by
    have u := x
    cases x
    simp only [Cmd.val_ret] at h
    exact (law12_known.eq ).trans ((law12_known.nice  (fun r0 => some ([⟨Ty.bool, r0⟩] : List DVal))).trans h)
end
end Go.D.Ytmdnddoiopgboaa
