import Derived.Test.YtbcjiicaekfjlaaChecked
import Derived.Test.YtbcjiicaekfjlaaDX
import Derived.KernelRfl
namespace Go.D.Ytbcjiicaekfjlaa
open Go.Proofs
set_option linter.unusedVariables false
set_option linter.unusedSimpArgs false
set_option maxRecDepth 100000
noncomputable section
theorem mixed : Try.prog.follows .mixedOrders = true := by kernel_rfl
def noL : Nat → Option Sum := fun _ => none


/-! ### word_bit -/
def word_bit.env : Env := envNil
theorem word_bit.envOk : EnvOk Try.prog word_bit.env := envOk_nil _
def word_bit.C : Cfg := { rows := [], keep := [], adopt := [] }
def word_bit.tree {R : Type} (a0 : Int) (a1 : Int) (ret : Bool → Option R) : Option R :=
  bif decide ((0 : Int) ≤ a1) then ret (bitop BinOp.and IntKind.u32 (shr IntKind.u32 a0 a1) (1 : Int) == (1 : Int)) else none
theorem word_bit.eq (a0 : Int) (a1 : Int) : body Try.prog word_bit.C word_bit.env noL Try.f62 [⟨Ty.int IntKind.u32, a0⟩, ⟨Ty.int IntKind.i64, a1⟩] = word_bit.tree a0 a1 (fun r0 => some ([⟨Ty.bool, r0⟩] : List DVal)) := by kernel_rfl
def word_bit.pre (v n : Int) : Bool := decide (0 ≤ n)
def word_bit (v n : Int) : Bool := bitop BinOp.and IntKind.u32 (shr IntKind.u32 v n) (1 : Int) == (1 : Int)
theorem word_bit.nice {R : Type} (v n : Int) (hp : word_bit.pre v n = true) (ret : Bool → Option R) : word_bit.tree v n ret = ret (word_bit v n) := by
  have h : decide ((0 : Int) ≤ n) = true := hp
  unfold word_bit.tree
  rw [h]
  rfl
def word_bit.ctr : Ctr := ctrOf [Ty.int IntKind.u32, Ty.int IntKind.i64] fun x => .guard (word_bit.pre (x.1) (x.2.1)) (.ret [⟨Ty.bool, word_bit (x.1) (x.2.1)⟩])
theorem word_bit.known : Known Try.prog 62 word_bit.ctr :=
  known_plain word_bit.envOk mixed Try.func62 (by kernel_rfl) (by kernel_rfl) (noLoops (by kernel_rfl)) (noSpots (by kernel_rfl)) fun x rs h => by
    obtain ⟨a0, a1, u⟩ := x
    cases u
    simp only [Cmd.val_guard, Cmd.val_ret] at h
    split at h <;> try (cases h; done)
    rename_i hp
    exact (word_bit.eq a0 a1).trans ((word_bit.nice a0 a1 hp (fun r0 => some ([⟨Ty.bool, r0⟩] : List DVal))).trans h)

/-! ### bits_Add32 -/
def bits_Add32.env : Env := envNil
theorem bits_Add32.envOk : EnvOk Try.prog bits_Add32.env := envOk_nil _
def bits_Add32.C : Cfg := { rows := [], keep := [], adopt := [] }
def bits_Add32.tree {R : Type} (a0 : Int) (a1 : Int) (a2 : Int) (ret : Int → Int → Option R) : Option R :=
  ret (IntKind.wrap IntKind.u32 (IntKind.wrap IntKind.u64 (IntKind.wrap IntKind.u64 (IntKind.wrap IntKind.u64 a0 + IntKind.wrap IntKind.u64 a1) + IntKind.wrap IntKind.u64 a2))) (IntKind.wrap IntKind.u32 (shr IntKind.u64 (IntKind.wrap IntKind.u64 (IntKind.wrap IntKind.u64 (IntKind.wrap IntKind.u64 a0 + IntKind.wrap IntKind.u64 a1) + IntKind.wrap IntKind.u64 a2)) (32 : Int)))
theorem bits_Add32.eq (a0 : Int) (a1 : Int) (a2 : Int) : body Try.prog bits_Add32.C bits_Add32.env noL Try.f65 [⟨Ty.int IntKind.u32, a0⟩, ⟨Ty.int IntKind.u32, a1⟩, ⟨Ty.int IntKind.u32, a2⟩] = bits_Add32.tree a0 a1 a2 (fun r0 r1 => some ([⟨Ty.int IntKind.u32, r0⟩, ⟨Ty.int IntKind.u32, r1⟩] : List DVal)) := by kernel_rfl
def bits_Add32 (a0 : Int) (a1 : Int) (a2 : Int) : Int × Int :=
  (IntKind.wrap IntKind.u32 (IntKind.wrap IntKind.u64 (IntKind.wrap IntKind.u64 (IntKind.wrap IntKind.u64 a0 + IntKind.wrap IntKind.u64 a1) + IntKind.wrap IntKind.u64 a2)), IntKind.wrap IntKind.u32 (shr IntKind.u64 (IntKind.wrap IntKind.u64 (IntKind.wrap IntKind.u64 (IntKind.wrap IntKind.u64 a0 + IntKind.wrap IntKind.u64 a1) + IntKind.wrap IntKind.u64 a2)) (32 : Int)))
theorem bits_Add32.nice {R : Type} (a0 : Int) (a1 : Int) (a2 : Int) (ret : Int → Int → Option R) : bits_Add32.tree a0 a1 a2 ret = ret (bits_Add32 a0 a1 a2).1 (bits_Add32 a0 a1 a2).2 := by
  obtain ⟨G, hG⟩ : ∃ G : (Int × Int) → Option R, ∀ x, G x = ret x.1 x.2 := ⟨_, fun _ => rfl⟩
  refine Eq.trans ?_ (hG (bits_Add32 a0 a1 a2))
  unfold bits_Add32.tree bits_Add32
  simp only [Bool.apply_cond G, hG]
def bits_Add32.ctr : Ctr := ctrOf [Ty.int IntKind.u32, Ty.int IntKind.u32, Ty.int IntKind.u32] fun x => .ret [⟨Ty.int IntKind.u32, (bits_Add32 (x.1) (x.2.1) (x.2.2.1)).1⟩, ⟨Ty.int IntKind.u32, (bits_Add32 (x.1) (x.2.1) (x.2.2.1)).2⟩]
theorem bits_Add32.known : Known Try.prog 65 bits_Add32.ctr :=
  known_plain bits_Add32.envOk mixed Try.func65 (by kernel_rfl) (by kernel_rfl) (noLoops (by kernel_rfl)) (noSpots (by kernel_rfl)) fun x rs h => by
    obtain ⟨a0, a1, a2, u⟩ := x
    cases u
    simp only [Cmd.val_ret] at h
    exact (bits_Add32.eq a0 a1 a2).trans ((bits_Add32.nice a0 a1 a2 (fun r0 r1 => some ([⟨Ty.int IntKind.u32, r0⟩, ⟨Ty.int IntKind.u32, r1⟩] : List DVal))).trans h)

/-! ### word_AddCarry -/
def word_AddCarry.env : Env := envCons 65 bits_Add32.ctr <| envNil
theorem word_AddCarry.envOk : EnvOk Try.prog word_AddCarry.env := envOk_cons bits_Add32.known (envOk_nil _)
def word_AddCarry.T3000003 : Tm := ⟨fill 0 32 [(0, Sl.data (Ty.int IntKind.u32)), (1, Sl.data (Ty.int IntKind.u32)), (9, Sl.data (Ty.int IntKind.u32)), (12, Sl.data Ty.bool)], []⟩
def word_AddCarry.X3000003_normal : Tm := ⟨fill 0 32 [(0, Sl.data (Ty.int IntKind.u32)), (1, Sl.data (Ty.int IntKind.u32)), (9, Sl.data (Ty.int IntKind.u32))], []⟩
def word_AddCarry.o3000003 {R : Type} (v0 : Int) (v1 : Int) (v2 : Int) (v3 : Bool) (knormal : Int → Int → Int → Option R) : Option R :=
  bif v3 then knormal v0 v1 (1 : Int) else knormal v0 v1 v2
def word_AddCarry.s3000003 {R : Type} (v0 : Int) (v1 : Int) (v2 : Int) (v3 : Bool) (knormal : Int → Int → Int → Option R) : Option R :=
  knormal v0 v1 (bif v3 then (1 : Int) else v2)
theorem word_AddCarry.s3000003_eq {R : Type} (v0 : Int) (v1 : Int) (v2 : Int) (v3 : Bool) (knormal : Int → Int → Int → Option R) : word_AddCarry.s3000003 v0 v1 v2 v3 knormal = word_AddCarry.o3000003 v0 v1 v2 v3 knormal := by
  unfold word_AddCarry.s3000003 word_AddCarry.o3000003
  (cases hc : v3 with | false => (first | rfl | simp_all) | true => (first | rfl | simp_all))
def word_AddCarry.C : Cfg := { rows := [], keep := [(3000003, [0, 1, 9, 12], []), (13000003, [0, 1, 9], [])], adopt := [] }
def word_AddCarry.sum3000003 : FrV word_AddCarry.T3000003.fr × StV word_AddCarry.T3000003.st → (Ex → S → Option (List DVal)) → Option (List DVal) := fun ((v0, v1, v2, v3, ()), (())) K => word_AddCarry.s3000003 v0 v1 v2 v3 (fun e0 e1 e2 => K .normal (pack word_AddCarry.X3000003_normal ((e0, e1, e2, ()), (()))))
def word_AddCarry.L : Nat → Option Sum := fun i => if i = 3000003 then some (sumOf word_AddCarry.T3000003 word_AddCarry.sum3000003) else none
theorem word_AddCarry.x3000003 : ∀ v (K : Ex → S → Option (List DVal)), exec1 Try.prog word_AddCarry.C word_AddCarry.env word_AddCarry.L (spotOf Try.f28 3000003).2.1 (spotOf Try.f28 3000003).2.2 (pack word_AddCarry.T3000003 v) (fun e s' => K e (trim word_AddCarry.C (3000003 + 10000000) s')) = (fun (((v0, v1, v2, v3, ()), (())) : FrV word_AddCarry.T3000003.fr × StV word_AddCarry.T3000003.st) => word_AddCarry.o3000003 v0 v1 v2 v3 (fun e0 e1 e2 => K .normal (pack word_AddCarry.X3000003_normal ((e0, e1, e2, ()), (()))))) v :=
  fun ((v0, v1, v2, v3, ()), (())) K => by kernel_rfl
theorem word_AddCarry.sum3000003_ok : SpotOk Try.prog word_AddCarry.C word_AddCarry.env word_AddCarry.L (spotOf Try.f28 3000003) := spotOk_of (T := word_AddCarry.T3000003) (q := 3000003) (f := word_AddCarry.sum3000003) (by kernel_rfl) (by kernel_rfl) fun ((v0, v1, v2, v3, ()), (())) K r h => (word_AddCarry.x3000003 _ K).trans ((word_AddCarry.s3000003_eq v0 v1 v2 v3 (fun e0 e1 e2 => K .normal (pack word_AddCarry.X3000003_normal ((e0, e1, e2, ()), (()))))).symm.trans h)
def word_AddCarry.tree {R : Type} (a0 : Int) (a1 : Int) (a2 : Bool) (ret : Int → Bool → Bool → Option R) : Option R :=
  ret (Prod.fst (bits_Add32 a0 a1 (bif a2 then (1 : Int) else (0 : Int)))) (Prod.snd (bits_Add32 a0 a1 (bif a2 then (1 : Int) else (0 : Int))) == (1 : Int)) (shr IntKind.u32 (bitop BinOp.and IntKind.u32 (bitop BinOp.xor IntKind.u32 a0 (Prod.fst (bits_Add32 a0 a1 (bif a2 then (1 : Int) else (0 : Int))))) (bitop BinOp.xor IntKind.u32 a1 (Prod.fst (bits_Add32 a0 a1 (bif a2 then (1 : Int) else (0 : Int)))))) (31 : Int) == (1 : Int))
theorem word_AddCarry.eq (a0 : Int) (a1 : Int) (a2 : Bool) : body Try.prog word_AddCarry.C word_AddCarry.env word_AddCarry.L Try.f28 [⟨Ty.int IntKind.u32, a0⟩, ⟨Ty.int IntKind.u32, a1⟩, ⟨Ty.bool, a2⟩] = word_AddCarry.tree a0 a1 a2 (fun r0 r1 r2 => some ([⟨Ty.int IntKind.u32, r0⟩, ⟨Ty.bool, r1⟩, ⟨Ty.bool, r2⟩] : List DVal)) := by kernel_rfl
def word_AddCarry (a0 : Int) (a1 : Int) (a2 : Bool) : Int × Bool × Bool :=
  (Prod.fst (bits_Add32 a0 a1 (bif a2 then (1 : Int) else (0 : Int))), Prod.snd (bits_Add32 a0 a1 (bif a2 then (1 : Int) else (0 : Int))) == (1 : Int), shr IntKind.u32 (bitop BinOp.and IntKind.u32 (bitop BinOp.xor IntKind.u32 a0 (Prod.fst (bits_Add32 a0 a1 (bif a2 then (1 : Int) else (0 : Int))))) (bitop BinOp.xor IntKind.u32 a1 (Prod.fst (bits_Add32 a0 a1 (bif a2 then (1 : Int) else (0 : Int)))))) (31 : Int) == (1 : Int))
theorem word_AddCarry.nice {R : Type} (a0 : Int) (a1 : Int) (a2 : Bool) (ret : Int → Bool → Bool → Option R) : word_AddCarry.tree a0 a1 a2 ret = ret (word_AddCarry a0 a1 a2).1 (word_AddCarry a0 a1 a2).2.1 (word_AddCarry a0 a1 a2).2.2 := by
  obtain ⟨G, hG⟩ : ∃ G : (Int × Bool × Bool) → Option R, ∀ x, G x = ret x.1 x.2.1 x.2.2 := ⟨_, fun _ => rfl⟩
  refine Eq.trans ?_ (hG (word_AddCarry a0 a1 a2))
  unfold word_AddCarry.tree word_AddCarry
  simp only [Bool.apply_cond G, hG]
def word_AddCarry.ctr : Ctr := ctrOf [Ty.int IntKind.u32, Ty.int IntKind.u32, Ty.bool] fun x => .ret [⟨Ty.int IntKind.u32, (word_AddCarry (x.1) (x.2.1) (x.2.2.1)).1⟩, ⟨Ty.bool, (word_AddCarry (x.1) (x.2.1) (x.2.2.1)).2.1⟩, ⟨Ty.bool, (word_AddCarry (x.1) (x.2.1) (x.2.2.1)).2.2⟩]
theorem word_AddCarry.known : Known Try.prog 28 word_AddCarry.ctr :=
  known_plain word_AddCarry.envOk mixed Try.func28 (by kernel_rfl) (by kernel_rfl) (noLoops (by kernel_rfl)) (bySpot (ids := [3000003]) (by kernel_rfl) (by intro q hq; simp only [List.mem_cons, List.not_mem_nil, or_false] at hq; subst hq; first | exact word_AddCarry.sum3000003_ok)) fun x rs h => by
    obtain ⟨a0, a1, a2, u⟩ := x
    cases u
    simp only [Cmd.val_ret] at h
    exact (word_AddCarry.eq a0 a1 a2).trans ((word_AddCarry.nice a0 a1 a2 (fun r0 r1 r2 => some ([⟨Ty.int IntKind.u32, r0⟩, ⟨Ty.bool, r1⟩, ⟨Ty.bool, r2⟩] : List DVal))).trans h)

/-! ### ref1_AddCarry -/
def ref1_AddCarry.env : Env := envNil
theorem ref1_AddCarry.envOk : EnvOk Try.prog ref1_AddCarry.env := envOk_nil _
def ref1_AddCarry.T3000004 : Tm := ⟨fill 0 40 [(9, Sl.data (Ty.int IntKind.u64)), (10, Sl.data (Ty.int IntKind.i64)), (24, Sl.data Ty.bool)], []⟩
def ref1_AddCarry.X3000004_normal : Tm := ⟨fill 0 40 [(9, Sl.data (Ty.int IntKind.u64)), (10, Sl.data (Ty.int IntKind.i64))], []⟩
def ref1_AddCarry.o3000004 {R : Type} (v0 : Int) (v1 : Int) (v2 : Bool) (knormal : Int → Int → Option R) : Option R :=
  bif v2 then knormal (IntKind.wrap IntKind.u64 (v0 + (1 : Int))) (IntKind.wrap IntKind.i64 (v1 + (1 : Int))) else knormal v0 v1
def ref1_AddCarry.s3000004 {R : Type} (v0 : Int) (v1 : Int) (v2 : Bool) (knormal : Int → Int → Option R) : Option R :=
  knormal (bif v2 then IntKind.wrap IntKind.u64 (v0 + (1 : Int)) else v0) (bif v2 then IntKind.wrap IntKind.i64 (v1 + (1 : Int)) else v1)
theorem ref1_AddCarry.s3000004_eq {R : Type} (v0 : Int) (v1 : Int) (v2 : Bool) (knormal : Int → Int → Option R) : ref1_AddCarry.s3000004 v0 v1 v2 knormal = ref1_AddCarry.o3000004 v0 v1 v2 knormal := by
  unfold ref1_AddCarry.s3000004 ref1_AddCarry.o3000004
  (cases hc : v2 with | false => (first | rfl | simp_all) | true => (first | rfl | simp_all))
def ref1_AddCarry.C : Cfg := { rows := [], keep := [(3000004, [9, 10, 24], []), (13000004, [9, 10], [])], adopt := [] }
def ref1_AddCarry.sum3000004 : FrV ref1_AddCarry.T3000004.fr × StV ref1_AddCarry.T3000004.st → (Ex → S → Option (List DVal)) → Option (List DVal) := fun ((v0, v1, v2, ()), (())) K => ref1_AddCarry.s3000004 v0 v1 v2 (fun e0 e1 => K .normal (pack ref1_AddCarry.X3000004_normal ((e0, e1, ()), (()))))
def ref1_AddCarry.L : Nat → Option Sum := fun i => if i = 3000004 then some (sumOf ref1_AddCarry.T3000004 ref1_AddCarry.sum3000004) else none
theorem ref1_AddCarry.x3000004 : ∀ v (K : Ex → S → Option (List DVal)), exec1 Try.prog ref1_AddCarry.C ref1_AddCarry.env ref1_AddCarry.L (spotOf Try.f29 3000004).2.1 (spotOf Try.f29 3000004).2.2 (pack ref1_AddCarry.T3000004 v) (fun e s' => K e (trim ref1_AddCarry.C (3000004 + 10000000) s')) = (fun (((v0, v1, v2, ()), (())) : FrV ref1_AddCarry.T3000004.fr × StV ref1_AddCarry.T3000004.st) => ref1_AddCarry.o3000004 v0 v1 v2 (fun e0 e1 => K .normal (pack ref1_AddCarry.X3000004_normal ((e0, e1, ()), (()))))) v :=
  fun ((v0, v1, v2, ()), (())) K => by kernel_rfl
theorem ref1_AddCarry.sum3000004_ok : SpotOk Try.prog ref1_AddCarry.C ref1_AddCarry.env ref1_AddCarry.L (spotOf Try.f29 3000004) := spotOk_of (T := ref1_AddCarry.T3000004) (q := 3000004) (f := ref1_AddCarry.sum3000004) (by kernel_rfl) (by kernel_rfl) fun ((v0, v1, v2, ()), (())) K r h => (ref1_AddCarry.x3000004 _ K).trans ((ref1_AddCarry.s3000004_eq v0 v1 v2 (fun e0 e1 => K .normal (pack ref1_AddCarry.X3000004_normal ((e0, e1, ()), (()))))).symm.trans h)
def ref1_AddCarry.tree {R : Type} (a0 : Int) (a1 : Int) (a2 : Bool) (ret : Int → Bool → Bool → Option R) : Option R :=
  ret (IntKind.wrap IntKind.u32 (bitop BinOp.and IntKind.u64 (bif a2 then IntKind.wrap IntKind.u64 (IntKind.wrap IntKind.u64 (IntKind.wrap IntKind.u64 a0 + IntKind.wrap IntKind.u64 a1) + (1 : Int)) else IntKind.wrap IntKind.u64 (IntKind.wrap IntKind.u64 a0 + IntKind.wrap IntKind.u64 a1)) (4294967295 : Int))) (decide ((bif a2 then IntKind.wrap IntKind.u64 (IntKind.wrap IntKind.u64 (IntKind.wrap IntKind.u64 a0 + IntKind.wrap IntKind.u64 a1) + (1 : Int)) else IntKind.wrap IntKind.u64 (IntKind.wrap IntKind.u64 a0 + IntKind.wrap IntKind.u64 a1)) > (4294967295 : Int))) ((bif a2 then IntKind.wrap IntKind.i64 (IntKind.wrap IntKind.i64 (IntKind.wrap IntKind.i64 (IntKind.wrap IntKind.i32 a0) + IntKind.wrap IntKind.i64 (IntKind.wrap IntKind.i32 a1)) + (1 : Int)) else IntKind.wrap IntKind.i64 (IntKind.wrap IntKind.i64 (IntKind.wrap IntKind.i32 a0) + IntKind.wrap IntKind.i64 (IntKind.wrap IntKind.i32 a1))) != IntKind.wrap IntKind.i64 (IntKind.wrap IntKind.i32 (IntKind.wrap IntKind.u32 (bitop BinOp.and IntKind.u64 (bif a2 then IntKind.wrap IntKind.u64 (IntKind.wrap IntKind.u64 (IntKind.wrap IntKind.u64 a0 + IntKind.wrap IntKind.u64 a1) + (1 : Int)) else IntKind.wrap IntKind.u64 (IntKind.wrap IntKind.u64 a0 + IntKind.wrap IntKind.u64 a1)) (4294967295 : Int)))))
theorem ref1_AddCarry.eq (a0 : Int) (a1 : Int) (a2 : Bool) : body Try.prog ref1_AddCarry.C ref1_AddCarry.env ref1_AddCarry.L Try.f29 [⟨Ty.int IntKind.u32, a0⟩, ⟨Ty.int IntKind.u32, a1⟩, ⟨Ty.bool, a2⟩] = ref1_AddCarry.tree a0 a1 a2 (fun r0 r1 r2 => some ([⟨Ty.int IntKind.u32, r0⟩, ⟨Ty.bool, r1⟩, ⟨Ty.bool, r2⟩] : List DVal)) := by kernel_rfl
def ref1_AddCarry (a0 : Int) (a1 : Int) (a2 : Bool) : Int × Bool × Bool :=
  (IntKind.wrap IntKind.u32 (bitop BinOp.and IntKind.u64 (bif a2 then IntKind.wrap IntKind.u64 (IntKind.wrap IntKind.u64 (IntKind.wrap IntKind.u64 a0 + IntKind.wrap IntKind.u64 a1) + (1 : Int)) else IntKind.wrap IntKind.u64 (IntKind.wrap IntKind.u64 a0 + IntKind.wrap IntKind.u64 a1)) (4294967295 : Int)), decide ((bif a2 then IntKind.wrap IntKind.u64 (IntKind.wrap IntKind.u64 (IntKind.wrap IntKind.u64 a0 + IntKind.wrap IntKind.u64 a1) + (1 : Int)) else IntKind.wrap IntKind.u64 (IntKind.wrap IntKind.u64 a0 + IntKind.wrap IntKind.u64 a1)) > (4294967295 : Int)), (bif a2 then IntKind.wrap IntKind.i64 (IntKind.wrap IntKind.i64 (IntKind.wrap IntKind.i64 (IntKind.wrap IntKind.i32 a0) + IntKind.wrap IntKind.i64 (IntKind.wrap IntKind.i32 a1)) + (1 : Int)) else IntKind.wrap IntKind.i64 (IntKind.wrap IntKind.i64 (IntKind.wrap IntKind.i32 a0) + IntKind.wrap IntKind.i64 (IntKind.wrap IntKind.i32 a1))) != IntKind.wrap IntKind.i64 (IntKind.wrap IntKind.i32 (IntKind.wrap IntKind.u32 (bitop BinOp.and IntKind.u64 (bif a2 then IntKind.wrap IntKind.u64 (IntKind.wrap IntKind.u64 (IntKind.wrap IntKind.u64 a0 + IntKind.wrap IntKind.u64 a1) + (1 : Int)) else IntKind.wrap IntKind.u64 (IntKind.wrap IntKind.u64 a0 + IntKind.wrap IntKind.u64 a1)) (4294967295 : Int)))))
theorem ref1_AddCarry.nice {R : Type} (a0 : Int) (a1 : Int) (a2 : Bool) (ret : Int → Bool → Bool → Option R) : ref1_AddCarry.tree a0 a1 a2 ret = ret (ref1_AddCarry a0 a1 a2).1 (ref1_AddCarry a0 a1 a2).2.1 (ref1_AddCarry a0 a1 a2).2.2 := by
  obtain ⟨G, hG⟩ : ∃ G : (Int × Bool × Bool) → Option R, ∀ x, G x = ret x.1 x.2.1 x.2.2 := ⟨_, fun _ => rfl⟩
  refine Eq.trans ?_ (hG (ref1_AddCarry a0 a1 a2))
  unfold ref1_AddCarry.tree ref1_AddCarry
  simp only [Bool.apply_cond G, hG]
def ref1_AddCarry.ctr : Ctr := ctrOf [Ty.int IntKind.u32, Ty.int IntKind.u32, Ty.bool] fun x => .ret [⟨Ty.int IntKind.u32, (ref1_AddCarry (x.1) (x.2.1) (x.2.2.1)).1⟩, ⟨Ty.bool, (ref1_AddCarry (x.1) (x.2.1) (x.2.2.1)).2.1⟩, ⟨Ty.bool, (ref1_AddCarry (x.1) (x.2.1) (x.2.2.1)).2.2⟩]
theorem ref1_AddCarry.known : Known Try.prog 29 ref1_AddCarry.ctr :=
  known_plain ref1_AddCarry.envOk mixed Try.func29 (by kernel_rfl) (by kernel_rfl) (noLoops (by kernel_rfl)) (bySpot (ids := [3000004]) (by kernel_rfl) (by intro q hq; simp only [List.mem_cons, List.not_mem_nil, or_false] at hq; subst hq; first | exact ref1_AddCarry.sum3000004_ok)) fun x rs h => by
    obtain ⟨a0, a1, a2, u⟩ := x
    cases u
    simp only [Cmd.val_ret] at h
    exact (ref1_AddCarry.eq a0 a1 a2).trans ((ref1_AddCarry.nice a0 a1 a2 (fun r0 r1 r2 => some ([⟨Ty.int IntKind.u32, r0⟩, ⟨Ty.bool, r1⟩, ⟨Ty.bool, r2⟩] : List DVal))).trans h)

/-! ### word_Mul64 -/
def word_Mul64.env : Env := envNil
theorem word_Mul64.envOk : EnvOk Try.prog word_Mul64.env := envOk_nil _
def word_Mul64.T3000003 : Tm := ⟨fill 0 28 [(0, Sl.data (Ty.int IntKind.u32)), (1, Sl.data (Ty.int IntKind.u32)), (8, Sl.data (Ty.int IntKind.u64)), (14, Sl.data Ty.bool)], []⟩
def word_Mul64.X3000003_normal : Tm := ⟨fill 0 28 [(8, Sl.data (Ty.int IntKind.u64))], []⟩
def word_Mul64.o3000003 {R : Type} (v0 : Int) (v1 : Int) (v2 : Int) (v3 : Bool) (knormal : Int → Option R) : Option R :=
  bif v3 then knormal (IntKind.wrap IntKind.u64 (IntKind.wrap IntKind.i64 (IntKind.wrap IntKind.i64 (IntKind.wrap IntKind.i32 v0) * IntKind.wrap IntKind.i64 (IntKind.wrap IntKind.i32 v1)))) else knormal v2
def word_Mul64.s3000003 {R : Type} (v0 : Int) (v1 : Int) (v2 : Int) (v3 : Bool) (knormal : Int → Option R) : Option R :=
  knormal (bif v3 then IntKind.wrap IntKind.u64 (IntKind.wrap IntKind.i64 (IntKind.wrap IntKind.i64 (IntKind.wrap IntKind.i32 v0) * IntKind.wrap IntKind.i64 (IntKind.wrap IntKind.i32 v1))) else v2)
theorem word_Mul64.s3000003_eq {R : Type} (v0 : Int) (v1 : Int) (v2 : Int) (v3 : Bool) (knormal : Int → Option R) : word_Mul64.s3000003 v0 v1 v2 v3 knormal = word_Mul64.o3000003 v0 v1 v2 v3 knormal := by
  unfold word_Mul64.s3000003 word_Mul64.o3000003
  (cases hc : v3 with | false => (first | rfl | simp_all) | true => (first | rfl | simp_all))
def word_Mul64.C : Cfg := { rows := [], keep := [(3000003, [0, 1, 8, 14], []), (13000003, [8], [])], adopt := [] }
def word_Mul64.sum3000003 : FrV word_Mul64.T3000003.fr × StV word_Mul64.T3000003.st → (Ex → S → Option (List DVal)) → Option (List DVal) := fun ((v0, v1, v2, v3, ()), (())) K => word_Mul64.s3000003 v0 v1 v2 v3 (fun e0 => K .normal (pack word_Mul64.X3000003_normal ((e0, ()), (()))))
def word_Mul64.L : Nat → Option Sum := fun i => if i = 3000003 then some (sumOf word_Mul64.T3000003 word_Mul64.sum3000003) else none
theorem word_Mul64.x3000003 : ∀ v (K : Ex → S → Option (List DVal)), exec1 Try.prog word_Mul64.C word_Mul64.env word_Mul64.L (spotOf Try.f48 3000003).2.1 (spotOf Try.f48 3000003).2.2 (pack word_Mul64.T3000003 v) (fun e s' => K e (trim word_Mul64.C (3000003 + 10000000) s')) = (fun (((v0, v1, v2, v3, ()), (())) : FrV word_Mul64.T3000003.fr × StV word_Mul64.T3000003.st) => word_Mul64.o3000003 v0 v1 v2 v3 (fun e0 => K .normal (pack word_Mul64.X3000003_normal ((e0, ()), (()))))) v :=
  fun ((v0, v1, v2, v3, ()), (())) K => by kernel_rfl
theorem word_Mul64.sum3000003_ok : SpotOk Try.prog word_Mul64.C word_Mul64.env word_Mul64.L (spotOf Try.f48 3000003) := spotOk_of (T := word_Mul64.T3000003) (q := 3000003) (f := word_Mul64.sum3000003) (by kernel_rfl) (by kernel_rfl) fun ((v0, v1, v2, v3, ()), (())) K r h => (word_Mul64.x3000003 _ K).trans ((word_Mul64.s3000003_eq v0 v1 v2 v3 (fun e0 => K .normal (pack word_Mul64.X3000003_normal ((e0, ()), (()))))).symm.trans h)
def word_Mul64.tree {R : Type} (a0 : Int) (a1 : Int) (a2 : Bool) (ret : Int → Int → Option R) : Option R :=
  ret (IntKind.wrap IntKind.u32 (bif a2 then IntKind.wrap IntKind.u64 (IntKind.wrap IntKind.i64 (IntKind.wrap IntKind.i64 (IntKind.wrap IntKind.i32 a0) * IntKind.wrap IntKind.i64 (IntKind.wrap IntKind.i32 a1))) else IntKind.wrap IntKind.u64 (IntKind.wrap IntKind.u64 a0 * IntKind.wrap IntKind.u64 a1))) (IntKind.wrap IntKind.u32 (shr IntKind.u64 (bif a2 then IntKind.wrap IntKind.u64 (IntKind.wrap IntKind.i64 (IntKind.wrap IntKind.i64 (IntKind.wrap IntKind.i32 a0) * IntKind.wrap IntKind.i64 (IntKind.wrap IntKind.i32 a1))) else IntKind.wrap IntKind.u64 (IntKind.wrap IntKind.u64 a0 * IntKind.wrap IntKind.u64 a1)) (32 : Int)))
theorem word_Mul64.eq (a0 : Int) (a1 : Int) (a2 : Bool) : body Try.prog word_Mul64.C word_Mul64.env word_Mul64.L Try.f48 [⟨Ty.int IntKind.u32, a0⟩, ⟨Ty.int IntKind.u32, a1⟩, ⟨Ty.bool, a2⟩] = word_Mul64.tree a0 a1 a2 (fun r0 r1 => some ([⟨Ty.int IntKind.u32, r0⟩, ⟨Ty.int IntKind.u32, r1⟩] : List DVal)) := by kernel_rfl
def word_Mul64 (a0 : Int) (a1 : Int) (a2 : Bool) : Int × Int :=
  (IntKind.wrap IntKind.u32 (bif a2 then IntKind.wrap IntKind.u64 (IntKind.wrap IntKind.i64 (IntKind.wrap IntKind.i64 (IntKind.wrap IntKind.i32 a0) * IntKind.wrap IntKind.i64 (IntKind.wrap IntKind.i32 a1))) else IntKind.wrap IntKind.u64 (IntKind.wrap IntKind.u64 a0 * IntKind.wrap IntKind.u64 a1)), IntKind.wrap IntKind.u32 (shr IntKind.u64 (bif a2 then IntKind.wrap IntKind.u64 (IntKind.wrap IntKind.i64 (IntKind.wrap IntKind.i64 (IntKind.wrap IntKind.i32 a0) * IntKind.wrap IntKind.i64 (IntKind.wrap IntKind.i32 a1))) else IntKind.wrap IntKind.u64 (IntKind.wrap IntKind.u64 a0 * IntKind.wrap IntKind.u64 a1)) (32 : Int)))
theorem word_Mul64.nice {R : Type} (a0 : Int) (a1 : Int) (a2 : Bool) (ret : Int → Int → Option R) : word_Mul64.tree a0 a1 a2 ret = ret (word_Mul64 a0 a1 a2).1 (word_Mul64 a0 a1 a2).2 := by
  obtain ⟨G, hG⟩ : ∃ G : (Int × Int) → Option R, ∀ x, G x = ret x.1 x.2 := ⟨_, fun _ => rfl⟩
  refine Eq.trans ?_ (hG (word_Mul64 a0 a1 a2))
  unfold word_Mul64.tree word_Mul64
  simp only [Bool.apply_cond G, hG]
def word_Mul64.ctr : Ctr := ctrOf [Ty.int IntKind.u32, Ty.int IntKind.u32, Ty.bool] fun x => .ret [⟨Ty.int IntKind.u32, (word_Mul64 (x.1) (x.2.1) (x.2.2.1)).1⟩, ⟨Ty.int IntKind.u32, (word_Mul64 (x.1) (x.2.1) (x.2.2.1)).2⟩]
theorem word_Mul64.known : Known Try.prog 48 word_Mul64.ctr :=
  known_plain word_Mul64.envOk mixed Try.func48 (by kernel_rfl) (by kernel_rfl) (noLoops (by kernel_rfl)) (bySpot (ids := [3000003]) (by kernel_rfl) (by intro q hq; simp only [List.mem_cons, List.not_mem_nil, or_false] at hq; subst hq; first | exact word_Mul64.sum3000003_ok)) fun x rs h => by
    obtain ⟨a0, a1, a2, u⟩ := x
    cases u
    simp only [Cmd.val_ret] at h
    exact (word_Mul64.eq a0 a1 a2).trans ((word_Mul64.nice a0 a1 a2 (fun r0 r1 => some ([⟨Ty.int IntKind.u32, r0⟩, ⟨Ty.int IntKind.u32, r1⟩] : List DVal))).trans h)

/-! ### ref1_Mul64 -/
def ref1_Mul64.env : Env := envNil
theorem ref1_Mul64.envOk : EnvOk Try.prog ref1_Mul64.env := envOk_nil _
def ref1_Mul64.T3000003 : Tm := ⟨fill 0 29 [(0, Sl.data (Ty.int IntKind.u32)), (1, Sl.data (Ty.int IntKind.u32)), (8, Sl.data (Ty.int IntKind.u64)), (14, Sl.data Ty.bool)], []⟩
def ref1_Mul64.X3000003_normal : Tm := ⟨fill 0 29 [(8, Sl.data (Ty.int IntKind.u64))], []⟩
def ref1_Mul64.o3000003 {R : Type} (v0 : Int) (v1 : Int) (v2 : Int) (v3 : Bool) (knormal : Int → Option R) : Option R :=
  bif v3 then knormal (IntKind.wrap IntKind.u64 (IntKind.wrap IntKind.i64 (IntKind.wrap IntKind.i64 (IntKind.wrap IntKind.i32 v0) * IntKind.wrap IntKind.i64 (IntKind.wrap IntKind.i32 v1)))) else knormal v2
def ref1_Mul64.s3000003 {R : Type} (v0 : Int) (v1 : Int) (v2 : Int) (v3 : Bool) (knormal : Int → Option R) : Option R :=
  knormal (bif v3 then IntKind.wrap IntKind.u64 (IntKind.wrap IntKind.i64 (IntKind.wrap IntKind.i64 (IntKind.wrap IntKind.i32 v0) * IntKind.wrap IntKind.i64 (IntKind.wrap IntKind.i32 v1))) else v2)
theorem ref1_Mul64.s3000003_eq {R : Type} (v0 : Int) (v1 : Int) (v2 : Int) (v3 : Bool) (knormal : Int → Option R) : ref1_Mul64.s3000003 v0 v1 v2 v3 knormal = ref1_Mul64.o3000003 v0 v1 v2 v3 knormal := by
  unfold ref1_Mul64.s3000003 ref1_Mul64.o3000003
  (cases hc : v3 with | false => (first | rfl | simp_all) | true => (first | rfl | simp_all))
def ref1_Mul64.C : Cfg := { rows := [], keep := [(3000003, [0, 1, 8, 14], []), (13000003, [8], [])], adopt := [] }
def ref1_Mul64.sum3000003 : FrV ref1_Mul64.T3000003.fr × StV ref1_Mul64.T3000003.st → (Ex → S → Option (List DVal)) → Option (List DVal) := fun ((v0, v1, v2, v3, ()), (())) K => ref1_Mul64.s3000003 v0 v1 v2 v3 (fun e0 => K .normal (pack ref1_Mul64.X3000003_normal ((e0, ()), (()))))
def ref1_Mul64.L : Nat → Option Sum := fun i => if i = 3000003 then some (sumOf ref1_Mul64.T3000003 ref1_Mul64.sum3000003) else none
theorem ref1_Mul64.x3000003 : ∀ v (K : Ex → S → Option (List DVal)), exec1 Try.prog ref1_Mul64.C ref1_Mul64.env ref1_Mul64.L (spotOf Try.f49 3000003).2.1 (spotOf Try.f49 3000003).2.2 (pack ref1_Mul64.T3000003 v) (fun e s' => K e (trim ref1_Mul64.C (3000003 + 10000000) s')) = (fun (((v0, v1, v2, v3, ()), (())) : FrV ref1_Mul64.T3000003.fr × StV ref1_Mul64.T3000003.st) => ref1_Mul64.o3000003 v0 v1 v2 v3 (fun e0 => K .normal (pack ref1_Mul64.X3000003_normal ((e0, ()), (()))))) v :=
  fun ((v0, v1, v2, v3, ()), (())) K => by kernel_rfl
theorem ref1_Mul64.sum3000003_ok : SpotOk Try.prog ref1_Mul64.C ref1_Mul64.env ref1_Mul64.L (spotOf Try.f49 3000003) := spotOk_of (T := ref1_Mul64.T3000003) (q := 3000003) (f := ref1_Mul64.sum3000003) (by kernel_rfl) (by kernel_rfl) fun ((v0, v1, v2, v3, ()), (())) K r h => (ref1_Mul64.x3000003 _ K).trans ((ref1_Mul64.s3000003_eq v0 v1 v2 v3 (fun e0 => K .normal (pack ref1_Mul64.X3000003_normal ((e0, ()), (()))))).symm.trans h)
def ref1_Mul64.tree {R : Type} (a0 : Int) (a1 : Int) (a2 : Bool) (ret : Int → Int → Option R) : Option R :=
  ret (IntKind.wrap IntKind.u32 (bitop BinOp.and IntKind.u64 (bif a2 then IntKind.wrap IntKind.u64 (IntKind.wrap IntKind.i64 (IntKind.wrap IntKind.i64 (IntKind.wrap IntKind.i32 a0) * IntKind.wrap IntKind.i64 (IntKind.wrap IntKind.i32 a1))) else IntKind.wrap IntKind.u64 (IntKind.wrap IntKind.u64 a0 * IntKind.wrap IntKind.u64 a1)) (4294967295 : Int))) (IntKind.wrap IntKind.u32 (shr IntKind.u64 (bif a2 then IntKind.wrap IntKind.u64 (IntKind.wrap IntKind.i64 (IntKind.wrap IntKind.i64 (IntKind.wrap IntKind.i32 a0) * IntKind.wrap IntKind.i64 (IntKind.wrap IntKind.i32 a1))) else IntKind.wrap IntKind.u64 (IntKind.wrap IntKind.u64 a0 * IntKind.wrap IntKind.u64 a1)) (32 : Int)))
theorem ref1_Mul64.eq (a0 : Int) (a1 : Int) (a2 : Bool) : body Try.prog ref1_Mul64.C ref1_Mul64.env ref1_Mul64.L Try.f49 [⟨Ty.int IntKind.u32, a0⟩, ⟨Ty.int IntKind.u32, a1⟩, ⟨Ty.bool, a2⟩] = ref1_Mul64.tree a0 a1 a2 (fun r0 r1 => some ([⟨Ty.int IntKind.u32, r0⟩, ⟨Ty.int IntKind.u32, r1⟩] : List DVal)) := by kernel_rfl
def ref1_Mul64 (a0 : Int) (a1 : Int) (a2 : Bool) : Int × Int :=
  (IntKind.wrap IntKind.u32 (bitop BinOp.and IntKind.u64 (bif a2 then IntKind.wrap IntKind.u64 (IntKind.wrap IntKind.i64 (IntKind.wrap IntKind.i64 (IntKind.wrap IntKind.i32 a0) * IntKind.wrap IntKind.i64 (IntKind.wrap IntKind.i32 a1))) else IntKind.wrap IntKind.u64 (IntKind.wrap IntKind.u64 a0 * IntKind.wrap IntKind.u64 a1)) (4294967295 : Int)), IntKind.wrap IntKind.u32 (shr IntKind.u64 (bif a2 then IntKind.wrap IntKind.u64 (IntKind.wrap IntKind.i64 (IntKind.wrap IntKind.i64 (IntKind.wrap IntKind.i32 a0) * IntKind.wrap IntKind.i64 (IntKind.wrap IntKind.i32 a1))) else IntKind.wrap IntKind.u64 (IntKind.wrap IntKind.u64 a0 * IntKind.wrap IntKind.u64 a1)) (32 : Int)))
theorem ref1_Mul64.nice {R : Type} (a0 : Int) (a1 : Int) (a2 : Bool) (ret : Int → Int → Option R) : ref1_Mul64.tree a0 a1 a2 ret = ret (ref1_Mul64 a0 a1 a2).1 (ref1_Mul64 a0 a1 a2).2 := by
  obtain ⟨G, hG⟩ : ∃ G : (Int × Int) → Option R, ∀ x, G x = ret x.1 x.2 := ⟨_, fun _ => rfl⟩
  refine Eq.trans ?_ (hG (ref1_Mul64 a0 a1 a2))
  unfold ref1_Mul64.tree ref1_Mul64
  simp only [Bool.apply_cond G, hG]
def ref1_Mul64.ctr : Ctr := ctrOf [Ty.int IntKind.u32, Ty.int IntKind.u32, Ty.bool] fun x => .ret [⟨Ty.int IntKind.u32, (ref1_Mul64 (x.1) (x.2.1) (x.2.2.1)).1⟩, ⟨Ty.int IntKind.u32, (ref1_Mul64 (x.1) (x.2.1) (x.2.2.1)).2⟩]
theorem ref1_Mul64.known : Known Try.prog 49 ref1_Mul64.ctr :=
  known_plain ref1_Mul64.envOk mixed Try.func49 (by kernel_rfl) (by kernel_rfl) (noLoops (by kernel_rfl)) (bySpot (ids := [3000003]) (by kernel_rfl) (by intro q hq; simp only [List.mem_cons, List.not_mem_nil, or_false] at hq; subst hq; first | exact ref1_Mul64.sum3000003_ok)) fun x rs h => by
    obtain ⟨a0, a1, a2, u⟩ := x
    cases u
    simp only [Cmd.val_ret] at h
    exact (ref1_Mul64.eq a0 a1 a2).trans ((ref1_Mul64.nice a0 a1 a2 (fun r0 r1 => some ([⟨Ty.int IntKind.u32, r0⟩, ⟨Ty.int IntKind.u32, r1⟩] : List DVal))).trans h)

/-! ### word_DivU -/
def word_DivU.env : Env := envNil
theorem word_DivU.envOk : EnvOk Try.prog word_DivU.env := envOk_nil _
def word_DivU.C : Cfg := { rows := [], keep := [], adopt := [] }
def word_DivU.tree {R : Type} (a0 : Int) (a1 : Int) (ret : Int → Option R) : Option R :=
  bif a1 == (0 : Int) then ret (0 : Int) else bif a1 != (0 : Int) then ret (IntKind.wrap IntKind.u32 (Int.tdiv a0 a1)) else none
theorem word_DivU.eq (a0 : Int) (a1 : Int) : body Try.prog word_DivU.C word_DivU.env noL Try.f50 [⟨Ty.int IntKind.u32, a0⟩, ⟨Ty.int IntKind.u32, a1⟩] = word_DivU.tree a0 a1 (fun r0 => some ([⟨Ty.int IntKind.u32, r0⟩] : List DVal)) := by kernel_rfl
def word_DivU (a b : Int) : Int := bif b == 0 then 0 else IntKind.wrap .u32 (Int.tdiv a b)
theorem word_DivU.nice {R : Type} (a b : Int) (ret : Int → Option R) : word_DivU.tree a b ret = ret (word_DivU a b) := by
  unfold word_DivU.tree word_DivU bne
  cases b == 0 <;> rfl
def word_DivU.ctr : Ctr := ctrOf [Ty.int IntKind.u32, Ty.int IntKind.u32] fun x => .ret [⟨Ty.int IntKind.u32, word_DivU (x.1) (x.2.1)⟩]
theorem word_DivU.known : Known Try.prog 50 word_DivU.ctr :=
  known_plain word_DivU.envOk mixed Try.func50 (by kernel_rfl) (by kernel_rfl) (noLoops (by kernel_rfl)) (noSpots (by kernel_rfl)) fun x rs h => by
    obtain ⟨a0, a1, u⟩ := x
    cases u
    simp only [Cmd.val_ret] at h
    exact (word_DivU.eq a0 a1).trans ((word_DivU.nice a0 a1 (fun r0 => some ([⟨Ty.int IntKind.u32, r0⟩] : List DVal))).trans h)

/-! ### ref1_DivU -/
def ref1_DivU.env : Env := envNil
theorem ref1_DivU.envOk : EnvOk Try.prog ref1_DivU.env := envOk_nil _
def ref1_DivU.C : Cfg := { rows := [], keep := [], adopt := [] }
def ref1_DivU.tree {R : Type} (a0 : Int) (a1 : Int) (ret : Int → Option R) : Option R :=
  bif a1 == (0 : Int) then ret (0 : Int) else bif a1 != (0 : Int) then ret (IntKind.wrap IntKind.u32 (Int.tdiv a0 a1)) else none
theorem ref1_DivU.eq (a0 : Int) (a1 : Int) : body Try.prog ref1_DivU.C ref1_DivU.env noL Try.f51 [⟨Ty.int IntKind.u32, a0⟩, ⟨Ty.int IntKind.u32, a1⟩] = ref1_DivU.tree a0 a1 (fun r0 => some ([⟨Ty.int IntKind.u32, r0⟩] : List DVal)) := by kernel_rfl
def ref1_DivU (a b : Int) : Int := bif b == 0 then 0 else IntKind.wrap .u32 (Int.tdiv a b)
theorem ref1_DivU.nice {R : Type} (a b : Int) (ret : Int → Option R) : ref1_DivU.tree a b ret = ret (ref1_DivU a b) := by
  unfold ref1_DivU.tree ref1_DivU bne
  cases b == 0 <;> rfl
def ref1_DivU.ctr : Ctr := ctrOf [Ty.int IntKind.u32, Ty.int IntKind.u32] fun x => .ret [⟨Ty.int IntKind.u32, ref1_DivU (x.1) (x.2.1)⟩]
theorem ref1_DivU.known : Known Try.prog 51 ref1_DivU.ctr :=
  known_plain ref1_DivU.envOk mixed Try.func51 (by kernel_rfl) (by kernel_rfl) (noLoops (by kernel_rfl)) (noSpots (by kernel_rfl)) fun x rs h => by
    obtain ⟨a0, a1, u⟩ := x
    cases u
    simp only [Cmd.val_ret] at h
    exact (ref1_DivU.eq a0 a1).trans ((ref1_DivU.nice a0 a1 (fun r0 => some ([⟨Ty.int IntKind.u32, r0⟩] : List DVal))).trans h)

/-! ### word_DivS -/
def word_DivS.env : Env := envNil
theorem word_DivS.envOk : EnvOk Try.prog word_DivS.env := envOk_nil _
def word_DivS.T2000004 : Tm := ⟨fill 0 26 [(0, Sl.data (Ty.int IntKind.u32)), (5, Sl.data (Ty.int IntKind.i32)), (6, Sl.data (Ty.int IntKind.i32))], []⟩
def word_DivS.X2000004_normal : Tm := ⟨fill 0 26 [(0, Sl.data (Ty.int IntKind.u32)), (5, Sl.data (Ty.int IntKind.i32)), (6, Sl.data (Ty.int IntKind.i32)), (14, Sl.data Ty.bool)], []⟩
def word_DivS.o2000004 {R : Type} (v0 : Int) (v1 : Int) (v2 : Int) (knormal : Int → Int → Int → Bool → Option R) : Option R :=
  bif v1 == (-2147483648 : Int) then knormal v0 v1 v2 (v2 == (-1 : Int)) else knormal v0 v1 v2 false
def word_DivS.s2000004 {R : Type} (v0 : Int) (v1 : Int) (v2 : Int) (knormal : Int → Int → Int → Bool → Option R) : Option R :=
  knormal v0 v1 v2 (v1 == (-2147483648 : Int) && v2 == (-1 : Int))
theorem word_DivS.s2000004_eq {R : Type} (v0 : Int) (v1 : Int) (v2 : Int) (knormal : Int → Int → Int → Bool → Option R) : word_DivS.s2000004 v0 v1 v2 knormal = word_DivS.o2000004 v0 v1 v2 knormal := by
  unfold word_DivS.s2000004 word_DivS.o2000004
  (cases hc : v1 == (-2147483648 : Int) with | false => (first | rfl | simp_all) | true => (first | rfl | simp_all))
def word_DivS.C : Cfg := { rows := [], keep := [(2000004, [0, 5, 6], []), (12000004, [0, 5, 6, 14], [])], adopt := [] }
def word_DivS.sum2000004 : FrV word_DivS.T2000004.fr × StV word_DivS.T2000004.st → (Ex → S → Option (List DVal)) → Option (List DVal) := fun ((v0, v1, v2, ()), (())) K => word_DivS.s2000004 v0 v1 v2 (fun e0 e1 e2 e3 => K .normal (pack word_DivS.X2000004_normal ((e0, e1, e2, e3, ()), (()))))
def word_DivS.L : Nat → Option Sum := fun i => if i = 2000004 then some (sumOf word_DivS.T2000004 word_DivS.sum2000004) else none
theorem word_DivS.x2000004 : ∀ v (K : Ex → S → Option (List DVal)), exec1 Try.prog word_DivS.C word_DivS.env word_DivS.L (spotOf Try.f52 2000004).2.1 (spotOf Try.f52 2000004).2.2 (pack word_DivS.T2000004 v) (fun e s' => K e (trim word_DivS.C (2000004 + 10000000) s')) = (fun (((v0, v1, v2, ()), (())) : FrV word_DivS.T2000004.fr × StV word_DivS.T2000004.st) => word_DivS.o2000004 v0 v1 v2 (fun e0 e1 e2 e3 => K .normal (pack word_DivS.X2000004_normal ((e0, e1, e2, e3, ()), (()))))) v :=
  fun ((v0, v1, v2, ()), (())) K => by kernel_rfl
theorem word_DivS.sum2000004_ok : SpotOk Try.prog word_DivS.C word_DivS.env word_DivS.L (spotOf Try.f52 2000004) := spotOk_of (T := word_DivS.T2000004) (q := 2000004) (f := word_DivS.sum2000004) (by kernel_rfl) (by kernel_rfl) fun ((v0, v1, v2, ()), (())) K r h => (word_DivS.x2000004 _ K).trans ((word_DivS.s2000004_eq v0 v1 v2 (fun e0 e1 e2 e3 => K .normal (pack word_DivS.X2000004_normal ((e0, e1, e2, e3, ()), (()))))).symm.trans h)
def word_DivS.tree {R : Type} (a0 : Int) (a1 : Int) (ret : Int → Option R) : Option R :=
  bif IntKind.wrap IntKind.i32 a1 == (0 : Int) then ret (0 : Int) else bif IntKind.wrap IntKind.i32 a0 == (-2147483648 : Int) && IntKind.wrap IntKind.i32 a1 == (-1 : Int) then ret a0 else bif IntKind.wrap IntKind.i32 a1 != (0 : Int) then ret (IntKind.wrap IntKind.u32 (IntKind.wrap IntKind.i32 (Int.tdiv (IntKind.wrap IntKind.i32 a0) (IntKind.wrap IntKind.i32 a1)))) else none
theorem word_DivS.eq (a0 : Int) (a1 : Int) : body Try.prog word_DivS.C word_DivS.env word_DivS.L Try.f52 [⟨Ty.int IntKind.u32, a0⟩, ⟨Ty.int IntKind.u32, a1⟩] = word_DivS.tree a0 a1 (fun r0 => some ([⟨Ty.int IntKind.u32, r0⟩] : List DVal)) := by kernel_rfl
def word_DivS (a b : Int) : Int := bif IntKind.wrap .i32 b == 0 then 0 else bif IntKind.wrap .i32 a == -2147483648 && IntKind.wrap .i32 b == -1 then a else IntKind.wrap .u32 (IntKind.wrap .i32 (Int.tdiv (IntKind.wrap .i32 a) (IntKind.wrap .i32 b)))
theorem word_DivS.nice {R : Type} (a b : Int) (ret : Int → Option R) : word_DivS.tree a b ret = ret (word_DivS a b) := by
  unfold word_DivS.tree word_DivS bne
  cases IntKind.wrap .i32 b == 0 <;> cases IntKind.wrap .i32 a == -2147483648 <;> cases IntKind.wrap .i32 b == -1 <;> rfl
def word_DivS.ctr : Ctr := ctrOf [Ty.int IntKind.u32, Ty.int IntKind.u32] fun x => .ret [⟨Ty.int IntKind.u32, word_DivS (x.1) (x.2.1)⟩]
theorem word_DivS.known : Known Try.prog 52 word_DivS.ctr :=
  known_plain word_DivS.envOk mixed Try.func52 (by kernel_rfl) (by kernel_rfl) (noLoops (by kernel_rfl)) (bySpot (ids := [2000004]) (by kernel_rfl) (by intro q hq; simp only [List.mem_cons, List.not_mem_nil, or_false] at hq; subst hq; first | exact word_DivS.sum2000004_ok)) fun x rs h => by
    obtain ⟨a0, a1, u⟩ := x
    cases u
    simp only [Cmd.val_ret] at h
    exact (word_DivS.eq a0 a1).trans ((word_DivS.nice a0 a1 (fun r0 => some ([⟨Ty.int IntKind.u32, r0⟩] : List DVal))).trans h)

/-! ### ref1_DivS -/
def ref1_DivS.env : Env := envNil
theorem ref1_DivS.envOk : EnvOk Try.prog ref1_DivS.env := envOk_nil _
def ref1_DivS.C : Cfg := { rows := [], keep := [], adopt := [] }
def ref1_DivS.tree {R : Type} (a0 : Int) (a1 : Int) (ret : Int → Option R) : Option R :=
  bif a1 == (0 : Int) then ret (0 : Int) else bif IntKind.wrap IntKind.i64 (IntKind.wrap IntKind.i32 a1) != (0 : Int) then ret (IntKind.wrap IntKind.u32 (bitop BinOp.and IntKind.i64 (IntKind.wrap IntKind.i64 (Int.tdiv (IntKind.wrap IntKind.i64 (IntKind.wrap IntKind.i32 a0)) (IntKind.wrap IntKind.i64 (IntKind.wrap IntKind.i32 a1)))) (4294967295 : Int))) else none
theorem ref1_DivS.eq (a0 : Int) (a1 : Int) : body Try.prog ref1_DivS.C ref1_DivS.env noL Try.f53 [⟨Ty.int IntKind.u32, a0⟩, ⟨Ty.int IntKind.u32, a1⟩] = ref1_DivS.tree a0 a1 (fun r0 => some ([⟨Ty.int IntKind.u32, r0⟩] : List DVal)) := by kernel_rfl
def ref1_DivS.pre (a b : Int) : Bool := decide (0 ≤ b ∧ b < 4294967296)
def ref1_DivS (a b : Int) : Int := bif b == 0 then 0 else IntKind.wrap .u32 (bitop .and .i64 (IntKind.wrap .i64 (Int.tdiv (IntKind.wrap .i64 (IntKind.wrap .i32 a)) (IntKind.wrap .i64 (IntKind.wrap .i32 b)))) 4294967295)
theorem ref1_DivS.nice {R : Type} (a b : Int) (hp : ref1_DivS.pre a b = true) (ret : Int → Option R) : ref1_DivS.tree a b ret = ret (ref1_DivS a b) := by
  have h : 0 ≤ b ∧ b < 4294967296 := of_decide_eq_true hp
  unfold ref1_DivS.tree ref1_DivS
  by_cases hb : b = 0
  · subst hb; rfl
  · have e1 : (b == 0) = false := by simpa using hb
    have e2 : (IntKind.wrap .i64 (IntKind.wrap .i32 b) != 0) = true := by
      rw [IntKind.wrap_i64, IntKind.wrap_i32]
      simp only [bne_iff_ne, ne_eq]
      omega
    rw [e1, e2]
    rfl
def ref1_DivS.ctr : Ctr := ctrOf [Ty.int IntKind.u32, Ty.int IntKind.u32] fun x => .guard (ref1_DivS.pre (x.1) (x.2.1)) (.ret [⟨Ty.int IntKind.u32, ref1_DivS (x.1) (x.2.1)⟩])
theorem ref1_DivS.known : Known Try.prog 53 ref1_DivS.ctr :=
  known_plain ref1_DivS.envOk mixed Try.func53 (by kernel_rfl) (by kernel_rfl) (noLoops (by kernel_rfl)) (noSpots (by kernel_rfl)) fun x rs h => by
    obtain ⟨a0, a1, u⟩ := x
    cases u
    simp only [Cmd.val_guard, Cmd.val_ret] at h
    split at h <;> try (cases h; done)
    rename_i hp
    exact (ref1_DivS.eq a0 a1).trans ((ref1_DivS.nice a0 a1 hp (fun r0 => some ([⟨Ty.int IntKind.u32, r0⟩] : List DVal))).trans h)

/-! ### word_width -/
def word_width.env : Env := envNil
theorem word_width.envOk : EnvOk Try.prog word_width.env := envOk_nil _
def word_width.C : Cfg := { rows := [], keep := [], adopt := [] }
def word_width.tree {R : Type} (a0 : Int) (ret : Int → Option R) : Option R :=
  ret (iminmax false (iminmax true a0 (1 : Int)) (32 : Int))
theorem word_width.eq (a0 : Int) : body Try.prog word_width.C word_width.env noL Try.f70 [⟨Ty.int IntKind.i64, a0⟩] = word_width.tree a0 (fun r0 => some ([⟨Ty.int IntKind.i64, r0⟩] : List DVal)) := by kernel_rfl
def word_width (a0 : Int) : Int :=
  iminmax false (iminmax true a0 (1 : Int)) (32 : Int)
theorem word_width.nice {R : Type} (a0 : Int) (ret : Int → Option R) : word_width.tree a0 ret = ret (word_width a0) := by
  unfold word_width.tree word_width
  simp only [Bool.apply_cond ret]
def word_width.ctr : Ctr := ctrOf [Ty.int IntKind.i64] fun x => .ret [⟨Ty.int IntKind.i64, word_width (x.1)⟩]
theorem word_width.known : Known Try.prog 70 word_width.ctr :=
  known_plain word_width.envOk mixed Try.func70 (by kernel_rfl) (by kernel_rfl) (noLoops (by kernel_rfl)) (noSpots (by kernel_rfl)) fun x rs h => by
    obtain ⟨a0, u⟩ := x
    cases u
    simp only [Cmd.val_ret] at h
    exact (word_width.eq a0).trans ((word_width.nice a0 (fun r0 => some ([⟨Ty.int IntKind.i64, r0⟩] : List DVal))).trans h)

/-! ### word_Sign -/
def word_Sign.env : Env := envCons 70 word_width.ctr <| envNil
theorem word_Sign.envOk : EnvOk Try.prog word_Sign.env := envOk_cons word_width.known (envOk_nil _)
def word_Sign.C : Cfg := { rows := [], keep := [], adopt := [] }
def word_Sign.tree {R : Type} (a0 : Int) (a1 : Int) (ret : Int → Option R) : Option R :=
  bif decide ((0 : Int) ≤ IntKind.wrap IntKind.i64 ((32 : Int) - word_width a1)) then bif decide ((0 : Int) ≤ IntKind.wrap IntKind.i64 ((32 : Int) - word_width a1)) then ret (IntKind.wrap IntKind.u32 (shr IntKind.i32 (IntKind.wrap IntKind.i32 (shl IntKind.u32 a0 (IntKind.wrap IntKind.i64 ((32 : Int) - word_width a1)))) (IntKind.wrap IntKind.i64 ((32 : Int) - word_width a1)))) else none else none
theorem word_Sign.eq (a0 : Int) (a1 : Int) : body Try.prog word_Sign.C word_Sign.env noL Try.f44 [⟨Ty.int IntKind.u32, a0⟩, ⟨Ty.int IntKind.i64, a1⟩] = word_Sign.tree a0 a1 (fun r0 => some ([⟨Ty.int IntKind.u32, r0⟩] : List DVal)) := by kernel_rfl
theorem width_range (n : Int) : 1 ≤ word_width n ∧ word_width n ≤ 32 := by
  unfold word_width
  rw [iminmax_min, iminmax_max]
  omega
theorem width_guard (n : Int) : decide ((0 : Int) ≤ IntKind.wrap IntKind.i64 ((32 : Int) - word_width n)) = true := by
  obtain ⟨h1, h2⟩ := width_range n
  rw [IntKind.wrap_i64]
  exact decide_eq_true (by omega)
def word_Sign (v n : Int) : Int := IntKind.wrap IntKind.u32 (shr IntKind.i32 (IntKind.wrap IntKind.i32 (shl IntKind.u32 v (IntKind.wrap IntKind.i64 ((32 : Int) - word_width n)))) (IntKind.wrap IntKind.i64 ((32 : Int) - word_width n)))
theorem word_Sign.nice {R : Type} (v n : Int) (ret : Int → Option R) : word_Sign.tree v n ret = ret (word_Sign v n) := by
  unfold word_Sign.tree
  rw [width_guard]
  rfl
def word_Sign.ctr : Ctr := ctrOf [Ty.int IntKind.u32, Ty.int IntKind.i64] fun x => .ret [⟨Ty.int IntKind.u32, word_Sign (x.1) (x.2.1)⟩]
theorem word_Sign.known : Known Try.prog 44 word_Sign.ctr :=
  known_plain word_Sign.envOk mixed Try.func44 (by kernel_rfl) (by kernel_rfl) (noLoops (by kernel_rfl)) (noSpots (by kernel_rfl)) fun x rs h => by
    obtain ⟨a0, a1, u⟩ := x
    cases u
    simp only [Cmd.val_ret] at h
    exact (word_Sign.eq a0 a1).trans ((word_Sign.nice a0 a1 (fun r0 => some ([⟨Ty.int IntKind.u32, r0⟩] : List DVal))).trans h)

/-! ### word_Zero -/
def word_Zero.env : Env := envCons 70 word_width.ctr <| envNil
theorem word_Zero.envOk : EnvOk Try.prog word_Zero.env := envOk_cons word_width.known (envOk_nil _)
def word_Zero.C : Cfg := { rows := [], keep := [], adopt := [] }
def word_Zero.tree {R : Type} (a0 : Int) (a1 : Int) (ret : Int → Option R) : Option R :=
  bif decide ((0 : Int) ≤ IntKind.wrap IntKind.i64 ((32 : Int) - word_width a1)) then bif decide ((0 : Int) ≤ IntKind.wrap IntKind.i64 ((32 : Int) - word_width a1)) then ret (shr IntKind.u32 (shl IntKind.u32 a0 (IntKind.wrap IntKind.i64 ((32 : Int) - word_width a1))) (IntKind.wrap IntKind.i64 ((32 : Int) - word_width a1))) else none else none
theorem word_Zero.eq (a0 : Int) (a1 : Int) : body Try.prog word_Zero.C word_Zero.env noL Try.f46 [⟨Ty.int IntKind.u32, a0⟩, ⟨Ty.int IntKind.i64, a1⟩] = word_Zero.tree a0 a1 (fun r0 => some ([⟨Ty.int IntKind.u32, r0⟩] : List DVal)) := by kernel_rfl
def word_Zero (v n : Int) : Int := shr IntKind.u32 (shl IntKind.u32 v (IntKind.wrap IntKind.i64 ((32 : Int) - word_width n))) (IntKind.wrap IntKind.i64 ((32 : Int) - word_width n))
theorem word_Zero.nice {R : Type} (v n : Int) (ret : Int → Option R) : word_Zero.tree v n ret = ret (word_Zero v n) := by
  unfold word_Zero.tree
  rw [width_guard]
  rfl
def word_Zero.ctr : Ctr := ctrOf [Ty.int IntKind.u32, Ty.int IntKind.i64] fun x => .ret [⟨Ty.int IntKind.u32, word_Zero (x.1) (x.2.1)⟩]
theorem word_Zero.known : Known Try.prog 46 word_Zero.ctr :=
  known_plain word_Zero.envOk mixed Try.func46 (by kernel_rfl) (by kernel_rfl) (noLoops (by kernel_rfl)) (noSpots (by kernel_rfl)) fun x rs h => by
    obtain ⟨a0, a1, u⟩ := x
    cases u
    simp only [Cmd.val_ret] at h
    exact (word_Zero.eq a0 a1).trans ((word_Zero.nice a0 a1 (fun r0 => some ([⟨Ty.int IntKind.u32, r0⟩] : List DVal))).trans h)

/-! ### word_Rev16 -/
def word_Rev16.env : Env := envNil
theorem word_Rev16.envOk : EnvOk Try.prog word_Rev16.env := envOk_nil _
def word_Rev16.C : Cfg := { rows := [], keep := [], adopt := [] }
def word_Rev16.tree {R : Type} (a0 : Int) (ret : Int → Option R) : Option R :=
  ret (bitop BinOp.or IntKind.u32 (bitop BinOp.and IntKind.u32 (shr IntKind.u32 a0 (8 : Int)) (16711935 : Int)) (bitop BinOp.and IntKind.u32 (shl IntKind.u32 a0 (8 : Int)) (4278255360 : Int)))
theorem word_Rev16.eq (a0 : Int) : body Try.prog word_Rev16.C word_Rev16.env noL Try.f40 [⟨Ty.int IntKind.u32, a0⟩] = word_Rev16.tree a0 (fun r0 => some ([⟨Ty.int IntKind.u32, r0⟩] : List DVal)) := by kernel_rfl
def word_Rev16 (a0 : Int) : Int :=
  bitop BinOp.or IntKind.u32 (bitop BinOp.and IntKind.u32 (shr IntKind.u32 a0 (8 : Int)) (16711935 : Int)) (bitop BinOp.and IntKind.u32 (shl IntKind.u32 a0 (8 : Int)) (4278255360 : Int))
theorem word_Rev16.nice {R : Type} (a0 : Int) (ret : Int → Option R) : word_Rev16.tree a0 ret = ret (word_Rev16 a0) := by
  unfold word_Rev16.tree word_Rev16
  simp only [Bool.apply_cond ret]
def word_Rev16.ctr : Ctr := ctrOf [Ty.int IntKind.u32] fun x => .ret [⟨Ty.int IntKind.u32, word_Rev16 (x.1)⟩]
theorem word_Rev16.known : Known Try.prog 40 word_Rev16.ctr :=
  known_plain word_Rev16.envOk mixed Try.func40 (by kernel_rfl) (by kernel_rfl) (noLoops (by kernel_rfl)) (noSpots (by kernel_rfl)) fun x rs h => by
    obtain ⟨a0, u⟩ := x
    cases u
    simp only [Cmd.val_ret] at h
    exact (word_Rev16.eq a0).trans ((word_Rev16.nice a0 (fun r0 => some ([⟨Ty.int IntKind.u32, r0⟩] : List DVal))).trans h)

/-! ### bits_ReverseBytes32 -/
def bits_ReverseBytes32.env : Env := envNil
theorem bits_ReverseBytes32.envOk : EnvOk Try.prog bits_ReverseBytes32.env := envOk_nil _
def bits_ReverseBytes32.C : Cfg := { rows := [], keep := [], adopt := [] }
def bits_ReverseBytes32.tree {R : Type} (a0 : Int) (ret : Int → Option R) : Option R :=
  ret (bitop BinOp.or IntKind.u32 (shr IntKind.u32 (bitop BinOp.or IntKind.u32 (bitop BinOp.and IntKind.u32 (shr IntKind.u32 a0 (8 : Int)) (16711935 : Int)) (shl IntKind.u32 (bitop BinOp.and IntKind.u32 a0 (16711935 : Int)) (8 : Int))) (16 : Int)) (shl IntKind.u32 (bitop BinOp.or IntKind.u32 (bitop BinOp.and IntKind.u32 (shr IntKind.u32 a0 (8 : Int)) (16711935 : Int)) (shl IntKind.u32 (bitop BinOp.and IntKind.u32 a0 (16711935 : Int)) (8 : Int))) (16 : Int)))
theorem bits_ReverseBytes32.eq (a0 : Int) : body Try.prog bits_ReverseBytes32.C bits_ReverseBytes32.env noL Try.f69 [⟨Ty.int IntKind.u32, a0⟩] = bits_ReverseBytes32.tree a0 (fun r0 => some ([⟨Ty.int IntKind.u32, r0⟩] : List DVal)) := by kernel_rfl
def bits_ReverseBytes32 (a0 : Int) : Int :=
  bitop BinOp.or IntKind.u32 (shr IntKind.u32 (bitop BinOp.or IntKind.u32 (bitop BinOp.and IntKind.u32 (shr IntKind.u32 a0 (8 : Int)) (16711935 : Int)) (shl IntKind.u32 (bitop BinOp.and IntKind.u32 a0 (16711935 : Int)) (8 : Int))) (16 : Int)) (shl IntKind.u32 (bitop BinOp.or IntKind.u32 (bitop BinOp.and IntKind.u32 (shr IntKind.u32 a0 (8 : Int)) (16711935 : Int)) (shl IntKind.u32 (bitop BinOp.and IntKind.u32 a0 (16711935 : Int)) (8 : Int))) (16 : Int))
theorem bits_ReverseBytes32.nice {R : Type} (a0 : Int) (ret : Int → Option R) : bits_ReverseBytes32.tree a0 ret = ret (bits_ReverseBytes32 a0) := by
  unfold bits_ReverseBytes32.tree bits_ReverseBytes32
  simp only [Bool.apply_cond ret]
def bits_ReverseBytes32.ctr : Ctr := ctrOf [Ty.int IntKind.u32] fun x => .ret [⟨Ty.int IntKind.u32, bits_ReverseBytes32 (x.1)⟩]
theorem bits_ReverseBytes32.known : Known Try.prog 69 bits_ReverseBytes32.ctr :=
  known_plain bits_ReverseBytes32.envOk mixed Try.func69 (by kernel_rfl) (by kernel_rfl) (noLoops (by kernel_rfl)) (noSpots (by kernel_rfl)) fun x rs h => by
    obtain ⟨a0, u⟩ := x
    cases u
    simp only [Cmd.val_ret] at h
    exact (bits_ReverseBytes32.eq a0).trans ((bits_ReverseBytes32.nice a0 (fun r0 => some ([⟨Ty.int IntKind.u32, r0⟩] : List DVal))).trans h)

/-! ### word_Rev -/
def word_Rev.env : Env := envCons 69 bits_ReverseBytes32.ctr <| envNil
theorem word_Rev.envOk : EnvOk Try.prog word_Rev.env := envOk_cons bits_ReverseBytes32.known (envOk_nil _)
def word_Rev.C : Cfg := { rows := [], keep := [], adopt := [] }
def word_Rev.tree {R : Type} (a0 : Int) (ret : Int → Option R) : Option R :=
  ret (bits_ReverseBytes32 a0)
theorem word_Rev.eq (a0 : Int) : body Try.prog word_Rev.C word_Rev.env noL Try.f38 [⟨Ty.int IntKind.u32, a0⟩] = word_Rev.tree a0 (fun r0 => some ([⟨Ty.int IntKind.u32, r0⟩] : List DVal)) := by kernel_rfl
def word_Rev (a0 : Int) : Int :=
  bits_ReverseBytes32 a0
theorem word_Rev.nice {R : Type} (a0 : Int) (ret : Int → Option R) : word_Rev.tree a0 ret = ret (word_Rev a0) := by
  unfold word_Rev.tree word_Rev
  simp only [Bool.apply_cond ret]
def word_Rev.ctr : Ctr := ctrOf [Ty.int IntKind.u32] fun x => .ret [⟨Ty.int IntKind.u32, word_Rev (x.1)⟩]
theorem word_Rev.known : Known Try.prog 38 word_Rev.ctr :=
  known_plain word_Rev.envOk mixed Try.func38 (by kernel_rfl) (by kernel_rfl) (noLoops (by kernel_rfl)) (noSpots (by kernel_rfl)) fun x rs h => by
    obtain ⟨a0, u⟩ := x
    cases u
    simp only [Cmd.val_ret] at h
    exact (word_Rev.eq a0).trans ((word_Rev.nice a0 (fun r0 => some ([⟨Ty.int IntKind.u32, r0⟩] : List DVal))).trans h)

/-! ### word_Revsh -/
def word_Revsh.env : Env := envCons 40 word_Rev16.ctr <| envCons 44 word_Sign.ctr <| envNil
theorem word_Revsh.envOk : EnvOk Try.prog word_Revsh.env := envOk_cons word_Rev16.known (envOk_cons word_Sign.known (envOk_nil _))
def word_Revsh.C : Cfg := { rows := [], keep := [], adopt := [] }
def word_Revsh.tree {R : Type} (a0 : Int) (ret : Int → Option R) : Option R :=
  ret (word_Sign (word_Rev16 a0) (16 : Int))
theorem word_Revsh.eq (a0 : Int) : body Try.prog word_Revsh.C word_Revsh.env noL Try.f42 [⟨Ty.int IntKind.u32, a0⟩] = word_Revsh.tree a0 (fun r0 => some ([⟨Ty.int IntKind.u32, r0⟩] : List DVal)) := by kernel_rfl
def word_Revsh (a0 : Int) : Int :=
  word_Sign (word_Rev16 a0) (16 : Int)
theorem word_Revsh.nice {R : Type} (a0 : Int) (ret : Int → Option R) : word_Revsh.tree a0 ret = ret (word_Revsh a0) := by
  unfold word_Revsh.tree word_Revsh
  simp only [Bool.apply_cond ret]
def word_Revsh.ctr : Ctr := ctrOf [Ty.int IntKind.u32] fun x => .ret [⟨Ty.int IntKind.u32, word_Revsh (x.1)⟩]
theorem word_Revsh.known : Known Try.prog 42 word_Revsh.ctr :=
  known_plain word_Revsh.envOk mixed Try.func42 (by kernel_rfl) (by kernel_rfl) (noLoops (by kernel_rfl)) (noSpots (by kernel_rfl)) fun x rs h => by
    obtain ⟨a0, u⟩ := x
    cases u
    simp only [Cmd.val_ret] at h
    exact (word_Revsh.eq a0).trans ((word_Revsh.nice a0 (fun r0 => some ([⟨Ty.int IntKind.u32, r0⟩] : List DVal))).trans h)

/-! ### bits_RotateLeft32 -/
def bits_RotateLeft32.env : Env := envNil
theorem bits_RotateLeft32.envOk : EnvOk Try.prog bits_RotateLeft32.env := envOk_nil _
def bits_RotateLeft32.C : Cfg := { rows := [], keep := [], adopt := [] }
def bits_RotateLeft32.tree {R : Type} (a0 : Int) (a1 : Int) (ret : Int → Option R) : Option R :=
  bif decide ((0 : Int) ≤ bitop BinOp.and IntKind.u64 (IntKind.wrap IntKind.u64 a1) (31 : Int)) then bif decide ((0 : Int) ≤ IntKind.wrap IntKind.u64 ((32 : Int) - bitop BinOp.and IntKind.u64 (IntKind.wrap IntKind.u64 a1) (31 : Int))) then ret (bitop BinOp.or IntKind.u32 (shl IntKind.u32 a0 (bitop BinOp.and IntKind.u64 (IntKind.wrap IntKind.u64 a1) (31 : Int))) (shr IntKind.u32 a0 (IntKind.wrap IntKind.u64 ((32 : Int) - bitop BinOp.and IntKind.u64 (IntKind.wrap IntKind.u64 a1) (31 : Int))))) else none else none
theorem bits_RotateLeft32.eq (a0 : Int) (a1 : Int) : body Try.prog bits_RotateLeft32.C bits_RotateLeft32.env noL Try.f63 [⟨Ty.int IntKind.u32, a0⟩, ⟨Ty.int IntKind.i64, a1⟩] = bits_RotateLeft32.tree a0 a1 (fun r0 => some ([⟨Ty.int IntKind.u32, r0⟩] : List DVal)) := by kernel_rfl
def rot_s (k : Int) : Int := bitop .and .u64 (IntKind.wrap .u64 k) 31
theorem rot_s_range (k : Int) : 0 ≤ rot_s k ∧ rot_s k ≤ 31 := bitop_and_small (k := .u64) (.inr (.inr rfl)) (IntKind.wrap .u64 k) 31 (by omega)
def bits_RotateLeft32 (a k : Int) : Int := bitop .or .u32 (shl .u32 a (rot_s k)) (shr .u32 a (IntKind.wrap .u64 (32 - rot_s k)))
theorem bits_RotateLeft32.nice {R : Type} (a k : Int) (ret : Int → Option R) : bits_RotateLeft32.tree a k ret = ret (bits_RotateLeft32 a k) := by
  unfold bits_RotateLeft32.tree
  change (bif decide (0 ≤ rot_s k) then bif decide (0 ≤ IntKind.wrap .u64 (32 - rot_s k)) then ret (bits_RotateLeft32 a k) else none else none) = _
  rw [decide_eq_true (rot_s_range k).1, decide_eq_true (by rw [IntKind.wrap_u64]; omega : 0 ≤ IntKind.wrap .u64 (32 - rot_s k))]
  rfl
def bits_RotateLeft32.ctr : Ctr := ctrOf [Ty.int IntKind.u32, Ty.int IntKind.i64] fun x => .ret [⟨Ty.int IntKind.u32, bits_RotateLeft32 (x.1) (x.2.1)⟩]
theorem bits_RotateLeft32.known : Known Try.prog 63 bits_RotateLeft32.ctr :=
  known_plain bits_RotateLeft32.envOk mixed Try.func63 (by kernel_rfl) (by kernel_rfl) (noLoops (by kernel_rfl)) (noSpots (by kernel_rfl)) fun x rs h => by
    obtain ⟨a0, a1, u⟩ := x
    cases u
    simp only [Cmd.val_ret] at h
    exact (bits_RotateLeft32.eq a0 a1).trans ((bits_RotateLeft32.nice a0 a1 (fun r0 => some ([⟨Ty.int IntKind.u32, r0⟩] : List DVal))).trans h)

/-! ### word_Shift -/
def word_Shift.env : Env := envCons 62 word_bit.ctr <| envCons 63 bits_RotateLeft32.ctr <| envNil
theorem word_Shift.envOk : EnvOk Try.prog word_Shift.env := envOk_cons word_bit.known (envOk_cons bits_RotateLeft32.known (envOk_nil _))
def word_Shift.T3000005 : Tm := ⟨fill 0 82 [(0, Sl.data (Ty.int IntKind.u32)), (10, Sl.data (Ty.int IntKind.u32)), (20, Sl.data Ty.bool)], []⟩
def word_Shift.X3000005_normal : Tm := ⟨fill 0 82 [(0, Sl.data (Ty.int IntKind.u32)), (10, Sl.data (Ty.int IntKind.u32))], []⟩
def word_Shift.o3000005 {R : Type} (v0 : Int) (v1 : Int) (v2 : Bool) (knormal : Int → Int → Option R) : Option R :=
  bif v2 then knormal v0 (bitop BinOp.or IntKind.u32 v1 (2147483648 : Int)) else knormal v0 v1
def word_Shift.s3000005 {R : Type} (v0 : Int) (v1 : Int) (v2 : Bool) (knormal : Int → Int → Option R) : Option R :=
  knormal v0 (bif v2 then bitop BinOp.or IntKind.u32 v1 (2147483648 : Int) else v1)
theorem word_Shift.s3000005_eq {R : Type} (v0 : Int) (v1 : Int) (v2 : Bool) (knormal : Int → Int → Option R) : word_Shift.s3000005 v0 v1 v2 knormal = word_Shift.o3000005 v0 v1 v2 knormal := by
  unfold word_Shift.s3000005 word_Shift.o3000005
  (cases hc : v2 with | false => (first | rfl | simp_all) | true => (first | rfl | simp_all))
def word_Shift.T2000011 : Tm := ⟨fill 0 82 [(0, Sl.data (Ty.int IntKind.u32)), (2, Sl.data (Ty.int IntKind.i64))], []⟩
def word_Shift.X2000011_normal : Tm := ⟨fill 0 82 [(8, Sl.data (Ty.int IntKind.u32)), (9, Sl.data Ty.bool)], []⟩
def word_Shift.o2000011 {R : Type} (v0 : Int) (v1 : Int) (knormal : Int → Bool → Option R) : Option R :=
  bif decide ((0 : Int) ≤ v1) then bif decide (v1 ≤ (32 : Int)) then bif word_bit.pre v0 (IntKind.wrap IntKind.i64 ((32 : Int) - v1)) then knormal (shl IntKind.u32 v0 v1) (word_bit v0 (IntKind.wrap IntKind.i64 ((32 : Int) - v1))) else none else knormal (shl IntKind.u32 v0 v1) false else none
def word_Shift.s2000011 {R : Type} (v0 : Int) (v1 : Int) (knormal : Int → Bool → Option R) : Option R :=
  bif decide ((0 : Int) ≤ v1) then bif !decide (v1 ≤ (32 : Int)) || word_bit.pre v0 (IntKind.wrap IntKind.i64 ((32 : Int) - v1)) then knormal (shl IntKind.u32 v0 v1) (decide (v1 ≤ (32 : Int)) && word_bit v0 (IntKind.wrap IntKind.i64 ((32 : Int) - v1))) else none else none
theorem word_Shift.s2000011_eq {R : Type} (v0 : Int) (v1 : Int) (knormal : Int → Bool → Option R) : word_Shift.s2000011 v0 v1 knormal = word_Shift.o2000011 v0 v1 knormal := by
  unfold word_Shift.s2000011 word_Shift.o2000011
  (cases hc : decide ((0 : Int) ≤ v1) with | false => (first | rfl | simp_all) | true => (cases hc : decide (v1 ≤ (32 : Int)) with | false => (first | rfl | simp_all) | true => (cases hc : word_bit.pre v0 (IntKind.wrap IntKind.i64 ((32 : Int) - v1)) with | false => (first | rfl | simp_all) | true => (first | rfl | simp_all))))
def word_Shift.T2000013 : Tm := ⟨fill 0 82 [(0, Sl.data (Ty.int IntKind.u32)), (2, Sl.data (Ty.int IntKind.i64))], []⟩
def word_Shift.X2000013_normal : Tm := ⟨fill 0 82 [(8, Sl.data (Ty.int IntKind.u32)), (9, Sl.data Ty.bool)], []⟩
def word_Shift.o2000013 {R : Type} (v0 : Int) (v1 : Int) (knormal : Int → Bool → Option R) : Option R :=
  bif decide ((0 : Int) ≤ v1) then bif decide (v1 ≤ (32 : Int)) then bif word_bit.pre v0 (IntKind.wrap IntKind.i64 (v1 - (1 : Int))) then knormal (shr IntKind.u32 v0 v1) (word_bit v0 (IntKind.wrap IntKind.i64 (v1 - (1 : Int)))) else none else knormal (shr IntKind.u32 v0 v1) false else none
def word_Shift.s2000013 {R : Type} (v0 : Int) (v1 : Int) (knormal : Int → Bool → Option R) : Option R :=
  bif decide ((0 : Int) ≤ v1) then bif !decide (v1 ≤ (32 : Int)) || word_bit.pre v0 (IntKind.wrap IntKind.i64 (v1 - (1 : Int))) then knormal (shr IntKind.u32 v0 v1) (decide (v1 ≤ (32 : Int)) && word_bit v0 (IntKind.wrap IntKind.i64 (v1 - (1 : Int)))) else none else none
theorem word_Shift.s2000013_eq {R : Type} (v0 : Int) (v1 : Int) (knormal : Int → Bool → Option R) : word_Shift.s2000013 v0 v1 knormal = word_Shift.o2000013 v0 v1 knormal := by
  unfold word_Shift.s2000013 word_Shift.o2000013
  (cases hc : decide ((0 : Int) ≤ v1) with | false => (first | rfl | simp_all) | true => (cases hc : decide (v1 ≤ (32 : Int)) with | false => (first | rfl | simp_all) | true => (cases hc : word_bit.pre v0 (IntKind.wrap IntKind.i64 (v1 - (1 : Int))) with | false => (first | rfl | simp_all) | true => (first | rfl | simp_all))))
def word_Shift.C : Cfg := { rows := [], keep := [(3000005, [0, 10, 20], []), (13000005, [0, 10], []), (2000011, [0, 2], []), (12000011, [8, 9], []), (2000013, [0, 2], []), (12000013, [8, 9], [])], adopt := [] }
def word_Shift.sum3000005 : FrV word_Shift.T3000005.fr × StV word_Shift.T3000005.st → (Ex → S → Option (List DVal)) → Option (List DVal) := fun ((v0, v1, v2, ()), (())) K => word_Shift.s3000005 v0 v1 v2 (fun e0 e1 => K .normal (pack word_Shift.X3000005_normal ((e0, e1, ()), (()))))
def word_Shift.sum2000011 : FrV word_Shift.T2000011.fr × StV word_Shift.T2000011.st → (Ex → S → Option (List DVal)) → Option (List DVal) := fun ((v0, v1, ()), (())) K => word_Shift.s2000011 v0 v1 (fun e0 e1 => K .normal (pack word_Shift.X2000011_normal ((e0, e1, ()), (()))))
def word_Shift.sum2000013 : FrV word_Shift.T2000013.fr × StV word_Shift.T2000013.st → (Ex → S → Option (List DVal)) → Option (List DVal) := fun ((v0, v1, ()), (())) K => word_Shift.s2000013 v0 v1 (fun e0 e1 => K .normal (pack word_Shift.X2000013_normal ((e0, e1, ()), (()))))
def word_Shift.L : Nat → Option Sum := fun i => if i = 3000005 then some (sumOf word_Shift.T3000005 word_Shift.sum3000005) else if i = 2000011 then some (sumOf word_Shift.T2000011 word_Shift.sum2000011) else if i = 2000013 then some (sumOf word_Shift.T2000013 word_Shift.sum2000013) else none
theorem word_Shift.x3000005 : ∀ v (K : Ex → S → Option (List DVal)), exec1 Try.prog word_Shift.C word_Shift.env word_Shift.L (spotOf Try.f26 3000005).2.1 (spotOf Try.f26 3000005).2.2 (pack word_Shift.T3000005 v) (fun e s' => K e (trim word_Shift.C (3000005 + 10000000) s')) = (fun (((v0, v1, v2, ()), (())) : FrV word_Shift.T3000005.fr × StV word_Shift.T3000005.st) => word_Shift.o3000005 v0 v1 v2 (fun e0 e1 => K .normal (pack word_Shift.X3000005_normal ((e0, e1, ()), (()))))) v :=
  fun ((v0, v1, v2, ()), (())) K => by kernel_rfl
theorem word_Shift.sum3000005_ok : SpotOk Try.prog word_Shift.C word_Shift.env word_Shift.L (spotOf Try.f26 3000005) := spotOk_of (T := word_Shift.T3000005) (q := 3000005) (f := word_Shift.sum3000005) (by kernel_rfl) (by kernel_rfl) fun ((v0, v1, v2, ()), (())) K r h => (word_Shift.x3000005 _ K).trans ((word_Shift.s3000005_eq v0 v1 v2 (fun e0 e1 => K .normal (pack word_Shift.X3000005_normal ((e0, e1, ()), (()))))).symm.trans h)
theorem word_Shift.x2000011 : ∀ v (K : Ex → S → Option (List DVal)), exec1 Try.prog word_Shift.C word_Shift.env word_Shift.L (spotOf Try.f26 2000011).2.1 (spotOf Try.f26 2000011).2.2 (pack word_Shift.T2000011 v) (fun e s' => K e (trim word_Shift.C (2000011 + 10000000) s')) = (fun (((v0, v1, ()), (())) : FrV word_Shift.T2000011.fr × StV word_Shift.T2000011.st) => word_Shift.o2000011 v0 v1 (fun e0 e1 => K .normal (pack word_Shift.X2000011_normal ((e0, e1, ()), (()))))) v :=
  fun ((v0, v1, ()), (())) K => by kernel_rfl
theorem word_Shift.sum2000011_ok : SpotOk Try.prog word_Shift.C word_Shift.env word_Shift.L (spotOf Try.f26 2000011) := spotOk_of (T := word_Shift.T2000011) (q := 2000011) (f := word_Shift.sum2000011) (by kernel_rfl) (by kernel_rfl) fun ((v0, v1, ()), (())) K r h => (word_Shift.x2000011 _ K).trans ((word_Shift.s2000011_eq v0 v1 (fun e0 e1 => K .normal (pack word_Shift.X2000011_normal ((e0, e1, ()), (()))))).symm.trans h)
theorem word_Shift.x2000013 : ∀ v (K : Ex → S → Option (List DVal)), exec1 Try.prog word_Shift.C word_Shift.env word_Shift.L (spotOf Try.f26 2000013).2.1 (spotOf Try.f26 2000013).2.2 (pack word_Shift.T2000013 v) (fun e s' => K e (trim word_Shift.C (2000013 + 10000000) s')) = (fun (((v0, v1, ()), (())) : FrV word_Shift.T2000013.fr × StV word_Shift.T2000013.st) => word_Shift.o2000013 v0 v1 (fun e0 e1 => K .normal (pack word_Shift.X2000013_normal ((e0, e1, ()), (()))))) v :=
  fun ((v0, v1, ()), (())) K => by kernel_rfl
theorem word_Shift.sum2000013_ok : SpotOk Try.prog word_Shift.C word_Shift.env word_Shift.L (spotOf Try.f26 2000013) := spotOk_of (T := word_Shift.T2000013) (q := 2000013) (f := word_Shift.sum2000013) (by kernel_rfl) (by kernel_rfl) fun ((v0, v1, ()), (())) K r h => (word_Shift.x2000013 _ K).trans ((word_Shift.s2000013_eq v0 v1 (fun e0 e1 => K .normal (pack word_Shift.X2000013_normal ((e0, e1, ()), (()))))).symm.trans h)
def word_Shift.tree {R : Type} (a0 : Int) (a1 : Int) (a2 : Int) (a3 : Bool) (ret : Int → Bool → Option R) : Option R :=
  bif a1 == (5 : Int) then bif word_bit.pre a0 (0 : Int) then ret (bif a3 then bitop BinOp.or IntKind.u32 (shr IntKind.u32 a0 (1 : Int)) (2147483648 : Int) else shr IntKind.u32 a0 (1 : Int)) (word_bit a0 (0 : Int)) else none else bif iminmax false (iminmax true a2 (0 : Int)) (255 : Int) == (0 : Int) then ret a0 a3 else bif a1 == (1 : Int) then bif decide ((0 : Int) ≤ iminmax false (iminmax true a2 (0 : Int)) (255 : Int)) then bif !decide (iminmax false (iminmax true a2 (0 : Int)) (255 : Int) ≤ (32 : Int)) || word_bit.pre a0 (IntKind.wrap IntKind.i64 ((32 : Int) - iminmax false (iminmax true a2 (0 : Int)) (255 : Int))) then ret (shl IntKind.u32 a0 (iminmax false (iminmax true a2 (0 : Int)) (255 : Int))) (decide (iminmax false (iminmax true a2 (0 : Int)) (255 : Int) ≤ (32 : Int)) && word_bit a0 (IntKind.wrap IntKind.i64 ((32 : Int) - iminmax false (iminmax true a2 (0 : Int)) (255 : Int)))) else none else none else bif a1 == (2 : Int) then bif decide ((0 : Int) ≤ iminmax false (iminmax true a2 (0 : Int)) (255 : Int)) then bif !decide (iminmax false (iminmax true a2 (0 : Int)) (255 : Int) ≤ (32 : Int)) || word_bit.pre a0 (IntKind.wrap IntKind.i64 (iminmax false (iminmax true a2 (0 : Int)) (255 : Int) - (1 : Int))) then ret (shr IntKind.u32 a0 (iminmax false (iminmax true a2 (0 : Int)) (255 : Int))) (decide (iminmax false (iminmax true a2 (0 : Int)) (255 : Int) ≤ (32 : Int)) && word_bit a0 (IntKind.wrap IntKind.i64 (iminmax false (iminmax true a2 (0 : Int)) (255 : Int) - (1 : Int)))) else none else none else bif a1 == (3 : Int) then bif decide ((0 : Int) ≤ iminmax false (iminmax false (iminmax true a2 (0 : Int)) (255 : Int)) (31 : Int)) then bif word_bit.pre a0 (iminmax false (IntKind.wrap IntKind.i64 (iminmax false (iminmax true a2 (0 : Int)) (255 : Int) - (1 : Int))) (31 : Int)) then ret (IntKind.wrap IntKind.u32 (shr IntKind.i32 (IntKind.wrap IntKind.i32 a0) (iminmax false (iminmax false (iminmax true a2 (0 : Int)) (255 : Int)) (31 : Int)))) (word_bit a0 (iminmax false (IntKind.wrap IntKind.i64 (iminmax false (iminmax true a2 (0 : Int)) (255 : Int) - (1 : Int))) (31 : Int))) else none else none else bif a1 == (4 : Int) then bif word_bit.pre (bits_RotateLeft32 a0 (IntKind.wrap IntKind.i64 ((0 : Int) - iminmax false (iminmax true a2 (0 : Int)) (255 : Int)))) (31 : Int) then ret (bits_RotateLeft32 a0 (IntKind.wrap IntKind.i64 ((0 : Int) - iminmax false (iminmax true a2 (0 : Int)) (255 : Int)))) (word_bit (bits_RotateLeft32 a0 (IntKind.wrap IntKind.i64 ((0 : Int) - iminmax false (iminmax true a2 (0 : Int)) (255 : Int)))) (31 : Int)) else none else ret a0 a3
theorem word_Shift.eq (a0 : Int) (a1 : Int) (a2 : Int) (a3 : Bool) : body Try.prog word_Shift.C word_Shift.env word_Shift.L Try.f26 [⟨Ty.int IntKind.u32, a0⟩, ⟨Ty.int IntKind.i64, a1⟩, ⟨Ty.int IntKind.i64, a2⟩, ⟨Ty.bool, a3⟩] = word_Shift.tree a0 a1 a2 a3 (fun r0 r1 => some ([⟨Ty.int IntKind.u32, r0⟩, ⟨Ty.bool, r1⟩] : List DVal)) := by kernel_rfl
def shN (n : Int) : Int := iminmax false (iminmax true n 0) 255
theorem shN_eq (n : Int) : shN n = min (max n 0) 255 := by unfold shN; rw [iminmax_min, iminmax_max]
theorem shN_range (n : Int) : 0 ≤ shN n ∧ shN n ≤ 255 := by rw [shN_eq]; omega
def word_Shift.pre (v k n : Int) (c : Bool) : Bool := true
def word_Shift (v k n : Int) (c : Bool) : Int × Bool :=
  bif k == 5 then (bif c then bitop .or .u32 (shr .u32 v 1) 2147483648 else shr .u32 v 1, word_bit v 0)
  else bif shN n == 0 then (v, c)
  else bif k == 1 then (shl .u32 v (shN n), decide (shN n ≤ 32) && word_bit v (IntKind.wrap .i64 (32 - shN n)))
  else bif k == 2 then (shr .u32 v (shN n), decide (shN n ≤ 32) && word_bit v (IntKind.wrap .i64 (shN n - 1)))
  else bif k == 3 then (IntKind.wrap .u32 (shr .i32 (IntKind.wrap .i32 v) (iminmax false (shN n) 31)), word_bit v (iminmax false (IntKind.wrap .i64 (shN n - 1)) 31))
  else bif k == 4 then (bits_RotateLeft32 v (IntKind.wrap .i64 (0 - shN n)), word_bit (bits_RotateLeft32 v (IntKind.wrap .i64 (0 - shN n))) 31)
  else (v, c)
theorem word_Shift.nice {R : Type} (v k n : Int) (c : Bool) (hp : word_Shift.pre v k n c = true) (ret : Int → Bool → Option R) : word_Shift.tree v k n c ret = ret (word_Shift v k n c).1 (word_Shift v k n c).2 := by
  unfold word_Shift.tree word_Shift
  rw [show iminmax false (iminmax true n 0) 255 = shN n from rfl]
  obtain ⟨h0, h1⟩ := shN_range n
  generalize shN n = N at h0 h1
  have b : ∀ x y : Int, 0 ≤ y → word_bit.pre x y = true := fun x y h => decide_eq_true h
  cases k == 5
  · cases hz : N == 0
    · have hN : N ≠ 0 := by simpa using hz
      have e1 : IntKind.wrap .i64 (N - 1) = N - 1 := by rw [IntKind.wrap_i64]; omega
      have m1 : 0 ≤ iminmax false N 31 := by rw [iminmax_min]; omega
      have m2 : 0 ≤ iminmax false (N - 1) 31 := by rw [iminmax_min]; omega
      have g1 : (!decide (N ≤ 32) || word_bit.pre v (IntKind.wrap .i64 (32 - N))) = true := by
        by_cases h : N ≤ 32
        · rw [b _ _ (by rw [IntKind.wrap_i64]; omega), Bool.or_true]
        · rw [decide_eq_false h]; rfl
      rw [e1, decide_eq_true h0, decide_eq_true m1, b _ _ m2, b _ _ (by omega : 0 ≤ N - 1), g1, b _ 31 (by decide), Bool.or_true]
      cases k == 1 <;> cases k == 2 <;> cases k == 3 <;> cases k == 4 <;> rfl
    · rfl
  · cases c <;> rfl
def word_Shift.ctr : Ctr := ctrOf [Ty.int IntKind.u32, Ty.int IntKind.i64, Ty.int IntKind.i64, Ty.bool] fun x => .guard (word_Shift.pre (x.1) (x.2.1) (x.2.2.1) (x.2.2.2.1)) (.ret [⟨Ty.int IntKind.u32, (word_Shift (x.1) (x.2.1) (x.2.2.1) (x.2.2.2.1)).1⟩, ⟨Ty.bool, (word_Shift (x.1) (x.2.1) (x.2.2.1) (x.2.2.2.1)).2⟩])
theorem word_Shift.known : Known Try.prog 26 word_Shift.ctr :=
  known_plain word_Shift.envOk mixed Try.func26 (by kernel_rfl) (by kernel_rfl) (noLoops (by kernel_rfl)) (bySpot (ids := [3000005, 2000011, 2000013]) (by kernel_rfl) (by intro q hq; simp only [List.mem_cons, List.not_mem_nil, or_false] at hq; rcases hq with rfl | rfl | rfl <;> first | exact word_Shift.sum3000005_ok | exact word_Shift.sum2000011_ok | exact word_Shift.sum2000013_ok)) fun x rs h => by
    obtain ⟨a0, a1, a2, a3, u⟩ := x
    cases u
    simp only [Cmd.val_guard, Cmd.val_ret] at h
    split at h <;> try (cases h; done)
    rename_i hp
    exact (word_Shift.eq a0 a1 a2 a3).trans ((word_Shift.nice a0 a1 a2 a3 hp (fun r0 r1 => some ([⟨Ty.int IntKind.u32, r0⟩, ⟨Ty.bool, r1⟩] : List DVal))).trans h)

/-! ### bits_Reverse32 -/
def bits_Reverse32.env : Env := envCons 69 bits_ReverseBytes32.ctr <| envNil
theorem bits_Reverse32.envOk : EnvOk Try.prog bits_Reverse32.env := envOk_cons bits_ReverseBytes32.known (envOk_nil _)
def bits_Reverse32.C : Cfg := { rows := [], keep := [], adopt := [] }
def bits_Reverse32.tree {R : Type} (a0 : Int) (ret : Int → Option R) : Option R :=
  ret (bits_ReverseBytes32 (bitop BinOp.or IntKind.u32 (bitop BinOp.and IntKind.u32 (shr IntKind.u32 (bitop BinOp.or IntKind.u32 (bitop BinOp.and IntKind.u32 (shr IntKind.u32 (bitop BinOp.or IntKind.u32 (bitop BinOp.and IntKind.u32 (shr IntKind.u32 a0 (1 : Int)) (1431655765 : Int)) (shl IntKind.u32 (bitop BinOp.and IntKind.u32 a0 (1431655765 : Int)) (1 : Int))) (2 : Int)) (858993459 : Int)) (shl IntKind.u32 (bitop BinOp.and IntKind.u32 (bitop BinOp.or IntKind.u32 (bitop BinOp.and IntKind.u32 (shr IntKind.u32 a0 (1 : Int)) (1431655765 : Int)) (shl IntKind.u32 (bitop BinOp.and IntKind.u32 a0 (1431655765 : Int)) (1 : Int))) (858993459 : Int)) (2 : Int))) (4 : Int)) (252645135 : Int)) (shl IntKind.u32 (bitop BinOp.and IntKind.u32 (bitop BinOp.or IntKind.u32 (bitop BinOp.and IntKind.u32 (shr IntKind.u32 (bitop BinOp.or IntKind.u32 (bitop BinOp.and IntKind.u32 (shr IntKind.u32 a0 (1 : Int)) (1431655765 : Int)) (shl IntKind.u32 (bitop BinOp.and IntKind.u32 a0 (1431655765 : Int)) (1 : Int))) (2 : Int)) (858993459 : Int)) (shl IntKind.u32 (bitop BinOp.and IntKind.u32 (bitop BinOp.or IntKind.u32 (bitop BinOp.and IntKind.u32 (shr IntKind.u32 a0 (1 : Int)) (1431655765 : Int)) (shl IntKind.u32 (bitop BinOp.and IntKind.u32 a0 (1431655765 : Int)) (1 : Int))) (858993459 : Int)) (2 : Int))) (252645135 : Int)) (4 : Int))))
theorem bits_Reverse32.eq (a0 : Int) : body Try.prog bits_Reverse32.C bits_Reverse32.env noL Try.f68 [⟨Ty.int IntKind.u32, a0⟩] = bits_Reverse32.tree a0 (fun r0 => some ([⟨Ty.int IntKind.u32, r0⟩] : List DVal)) := by kernel_rfl
def bits_Reverse32 (a0 : Int) : Int :=
  bits_ReverseBytes32 (bitop BinOp.or IntKind.u32 (bitop BinOp.and IntKind.u32 (shr IntKind.u32 (bitop BinOp.or IntKind.u32 (bitop BinOp.and IntKind.u32 (shr IntKind.u32 (bitop BinOp.or IntKind.u32 (bitop BinOp.and IntKind.u32 (shr IntKind.u32 a0 (1 : Int)) (1431655765 : Int)) (shl IntKind.u32 (bitop BinOp.and IntKind.u32 a0 (1431655765 : Int)) (1 : Int))) (2 : Int)) (858993459 : Int)) (shl IntKind.u32 (bitop BinOp.and IntKind.u32 (bitop BinOp.or IntKind.u32 (bitop BinOp.and IntKind.u32 (shr IntKind.u32 a0 (1 : Int)) (1431655765 : Int)) (shl IntKind.u32 (bitop BinOp.and IntKind.u32 a0 (1431655765 : Int)) (1 : Int))) (858993459 : Int)) (2 : Int))) (4 : Int)) (252645135 : Int)) (shl IntKind.u32 (bitop BinOp.and IntKind.u32 (bitop BinOp.or IntKind.u32 (bitop BinOp.and IntKind.u32 (shr IntKind.u32 (bitop BinOp.or IntKind.u32 (bitop BinOp.and IntKind.u32 (shr IntKind.u32 a0 (1 : Int)) (1431655765 : Int)) (shl IntKind.u32 (bitop BinOp.and IntKind.u32 a0 (1431655765 : Int)) (1 : Int))) (2 : Int)) (858993459 : Int)) (shl IntKind.u32 (bitop BinOp.and IntKind.u32 (bitop BinOp.or IntKind.u32 (bitop BinOp.and IntKind.u32 (shr IntKind.u32 a0 (1 : Int)) (1431655765 : Int)) (shl IntKind.u32 (bitop BinOp.and IntKind.u32 a0 (1431655765 : Int)) (1 : Int))) (858993459 : Int)) (2 : Int))) (252645135 : Int)) (4 : Int)))
theorem bits_Reverse32.nice {R : Type} (a0 : Int) (ret : Int → Option R) : bits_Reverse32.tree a0 ret = ret (bits_Reverse32 a0) := by
  unfold bits_Reverse32.tree bits_Reverse32
  simp only [Bool.apply_cond ret]
def bits_Reverse32.ctr : Ctr := ctrOf [Ty.int IntKind.u32] fun x => .ret [⟨Ty.int IntKind.u32, bits_Reverse32 (x.1)⟩]
theorem bits_Reverse32.known : Known Try.prog 68 bits_Reverse32.ctr :=
  known_plain bits_Reverse32.envOk mixed Try.func68 (by kernel_rfl) (by kernel_rfl) (noLoops (by kernel_rfl)) (noSpots (by kernel_rfl)) fun x rs h => by
    obtain ⟨a0, u⟩ := x
    cases u
    simp only [Cmd.val_ret] at h
    exact (bits_Reverse32.eq a0).trans ((bits_Reverse32.nice a0 (fun r0 => some ([⟨Ty.int IntKind.u32, r0⟩] : List DVal))).trans h)

/-! ### word_Rbit -/
def word_Rbit.env : Env := envCons 68 bits_Reverse32.ctr <| envNil
theorem word_Rbit.envOk : EnvOk Try.prog word_Rbit.env := envOk_cons bits_Reverse32.known (envOk_nil _)
def word_Rbit.C : Cfg := { rows := [], keep := [], adopt := [] }
def word_Rbit.tree {R : Type} (a0 : Int) (ret : Int → Option R) : Option R :=
  ret (bits_Reverse32 a0)
theorem word_Rbit.eq (a0 : Int) : body Try.prog word_Rbit.C word_Rbit.env noL Try.f36 [⟨Ty.int IntKind.u32, a0⟩] = word_Rbit.tree a0 (fun r0 => some ([⟨Ty.int IntKind.u32, r0⟩] : List DVal)) := by kernel_rfl
def word_Rbit (a0 : Int) : Int :=
  bits_Reverse32 a0
theorem word_Rbit.nice {R : Type} (a0 : Int) (ret : Int → Option R) : word_Rbit.tree a0 ret = ret (word_Rbit a0) := by
  unfold word_Rbit.tree word_Rbit
  simp only [Bool.apply_cond ret]
def word_Rbit.ctr : Ctr := ctrOf [Ty.int IntKind.u32] fun x => .ret [⟨Ty.int IntKind.u32, word_Rbit (x.1)⟩]
theorem word_Rbit.known : Known Try.prog 36 word_Rbit.ctr :=
  known_plain word_Rbit.envOk mixed Try.func36 (by kernel_rfl) (by kernel_rfl) (noLoops (by kernel_rfl)) (noSpots (by kernel_rfl)) fun x rs h => by
    obtain ⟨a0, u⟩ := x
    cases u
    simp only [Cmd.val_ret] at h
    exact (word_Rbit.eq a0).trans ((word_Rbit.nice a0 (fun r0 => some ([⟨Ty.int IntKind.u32, r0⟩] : List DVal))).trans h)

/-! ### bits_Len32 -/
def bits_Len32.env : Env := envNil
theorem bits_Len32.envOk : EnvOk Try.prog bits_Len32.env := envOk_nil _
def bits_Len32.T3000002 : Tm := ⟨fill 0 19 [(0, Sl.data (Ty.int IntKind.u32)), (2, Sl.data (Ty.int IntKind.i64)), (4, Sl.data Ty.bool)], []⟩
def bits_Len32.X3000002_normal : Tm := ⟨fill 0 19 [(0, Sl.data (Ty.int IntKind.u32)), (2, Sl.data (Ty.int IntKind.i64))], []⟩
def bits_Len32.o3000002 {R : Type} (v0 : Int) (v1 : Int) (v2 : Bool) (knormal : Int → Int → Option R) : Option R :=
  bif v2 then knormal (shr IntKind.u32 v0 (16 : Int)) (16 : Int) else knormal v0 v1
def bits_Len32.s3000002 {R : Type} (v0 : Int) (v1 : Int) (v2 : Bool) (knormal : Int → Int → Option R) : Option R :=
  knormal (bif v2 then shr IntKind.u32 v0 (16 : Int) else v0) (bif v2 then (16 : Int) else v1)
theorem bits_Len32.s3000002_eq {R : Type} (v0 : Int) (v1 : Int) (v2 : Bool) (knormal : Int → Int → Option R) : bits_Len32.s3000002 v0 v1 v2 knormal = bits_Len32.o3000002 v0 v1 v2 knormal := by
  unfold bits_Len32.s3000002 bits_Len32.o3000002
  (cases hc : v2 with | false => (first | rfl | simp_all) | true => (first | rfl | simp_all))
def bits_Len32.T3000005 : Tm := ⟨fill 0 19 [(0, Sl.data (Ty.int IntKind.u32)), (2, Sl.data (Ty.int IntKind.i64)), (8, Sl.data Ty.bool)], []⟩
def bits_Len32.X3000005_normal : Tm := ⟨fill 0 19 [(0, Sl.data (Ty.int IntKind.u32)), (2, Sl.data (Ty.int IntKind.i64))], []⟩
def bits_Len32.o3000005 {R : Type} (v0 : Int) (v1 : Int) (v2 : Bool) (knormal : Int → Int → Option R) : Option R :=
  bif v2 then knormal (shr IntKind.u32 v0 (8 : Int)) (IntKind.wrap IntKind.i64 (v1 + (8 : Int))) else knormal v0 v1
def bits_Len32.s3000005 {R : Type} (v0 : Int) (v1 : Int) (v2 : Bool) (knormal : Int → Int → Option R) : Option R :=
  knormal (bif v2 then shr IntKind.u32 v0 (8 : Int) else v0) (bif v2 then IntKind.wrap IntKind.i64 (v1 + (8 : Int)) else v1)
theorem bits_Len32.s3000005_eq {R : Type} (v0 : Int) (v1 : Int) (v2 : Bool) (knormal : Int → Int → Option R) : bits_Len32.s3000005 v0 v1 v2 knormal = bits_Len32.o3000005 v0 v1 v2 knormal := by
  unfold bits_Len32.s3000005 bits_Len32.o3000005
  (cases hc : v2 with | false => (first | rfl | simp_all) | true => (first | rfl | simp_all))
def bits_Len32.C : Cfg := { rows := [], keep := [(3000002, [0, 2, 4], []), (13000002, [0, 2], []), (3000005, [0, 2, 8], []), (13000005, [0, 2], [])], adopt := [] }
def bits_Len32.sum3000002 : FrV bits_Len32.T3000002.fr × StV bits_Len32.T3000002.st → (Ex → S → Option (List DVal)) → Option (List DVal) := fun ((v0, v1, v2, ()), (())) K => bits_Len32.s3000002 v0 v1 v2 (fun e0 e1 => K .normal (pack bits_Len32.X3000002_normal ((e0, e1, ()), (()))))
def bits_Len32.sum3000005 : FrV bits_Len32.T3000005.fr × StV bits_Len32.T3000005.st → (Ex → S → Option (List DVal)) → Option (List DVal) := fun ((v0, v1, v2, ()), (())) K => bits_Len32.s3000005 v0 v1 v2 (fun e0 e1 => K .normal (pack bits_Len32.X3000005_normal ((e0, e1, ()), (()))))
def bits_Len32.L : Nat → Option Sum := fun i => if i = 3000002 then some (sumOf bits_Len32.T3000002 bits_Len32.sum3000002) else if i = 3000005 then some (sumOf bits_Len32.T3000005 bits_Len32.sum3000005) else none
theorem bits_Len32.x3000002 : ∀ v (K : Ex → S → Option (List DVal)), exec1 Try.prog bits_Len32.C bits_Len32.env bits_Len32.L (spotOf Try.f71 3000002).2.1 (spotOf Try.f71 3000002).2.2 (pack bits_Len32.T3000002 v) (fun e s' => K e (trim bits_Len32.C (3000002 + 10000000) s')) = (fun (((v0, v1, v2, ()), (())) : FrV bits_Len32.T3000002.fr × StV bits_Len32.T3000002.st) => bits_Len32.o3000002 v0 v1 v2 (fun e0 e1 => K .normal (pack bits_Len32.X3000002_normal ((e0, e1, ()), (()))))) v :=
  fun ((v0, v1, v2, ()), (())) K => by kernel_rfl
theorem bits_Len32.sum3000002_ok : SpotOk Try.prog bits_Len32.C bits_Len32.env bits_Len32.L (spotOf Try.f71 3000002) := spotOk_of (T := bits_Len32.T3000002) (q := 3000002) (f := bits_Len32.sum3000002) (by kernel_rfl) (by kernel_rfl) fun ((v0, v1, v2, ()), (())) K r h => (bits_Len32.x3000002 _ K).trans ((bits_Len32.s3000002_eq v0 v1 v2 (fun e0 e1 => K .normal (pack bits_Len32.X3000002_normal ((e0, e1, ()), (()))))).symm.trans h)
theorem bits_Len32.x3000005 : ∀ v (K : Ex → S → Option (List DVal)), exec1 Try.prog bits_Len32.C bits_Len32.env bits_Len32.L (spotOf Try.f71 3000005).2.1 (spotOf Try.f71 3000005).2.2 (pack bits_Len32.T3000005 v) (fun e s' => K e (trim bits_Len32.C (3000005 + 10000000) s')) = (fun (((v0, v1, v2, ()), (())) : FrV bits_Len32.T3000005.fr × StV bits_Len32.T3000005.st) => bits_Len32.o3000005 v0 v1 v2 (fun e0 e1 => K .normal (pack bits_Len32.X3000005_normal ((e0, e1, ()), (()))))) v :=
  fun ((v0, v1, v2, ()), (())) K => by kernel_rfl
theorem bits_Len32.sum3000005_ok : SpotOk Try.prog bits_Len32.C bits_Len32.env bits_Len32.L (spotOf Try.f71 3000005) := spotOk_of (T := bits_Len32.T3000005) (q := 3000005) (f := bits_Len32.sum3000005) (by kernel_rfl) (by kernel_rfl) fun ((v0, v1, v2, ()), (())) K r h => (bits_Len32.x3000005 _ K).trans ((bits_Len32.s3000005_eq v0 v1 v2 (fun e0 e1 => K .normal (pack bits_Len32.X3000005_normal ((e0, e1, ()), (()))))).symm.trans h)
def bits_Len32.tree {R : Type} (a0 : Int) (ret : Int → Option R) : Option R :=
  bif decide ((0 : Int) ≤ IntKind.wrap IntKind.u8 (bif decide ((bif decide (a0 ≥ (65536 : Int)) then shr IntKind.u32 a0 (16 : Int) else a0) ≥ (256 : Int)) then shr IntKind.u32 (bif decide (a0 ≥ (65536 : Int)) then shr IntKind.u32 a0 (16 : Int) else a0) (8 : Int) else bif decide (a0 ≥ (65536 : Int)) then shr IntKind.u32 a0 (16 : Int) else a0)) && decide (IntKind.wrap IntKind.u8 (bif decide ((bif decide (a0 ≥ (65536 : Int)) then shr IntKind.u32 a0 (16 : Int) else a0) ≥ (256 : Int)) then shr IntKind.u32 (bif decide (a0 ≥ (65536 : Int)) then shr IntKind.u32 a0 (16 : Int) else a0) (8 : Int) else bif decide (a0 ≥ (65536 : Int)) then shr IntKind.u32 a0 (16 : Int) else a0) < (256 : Int)) then ret (IntKind.wrap IntKind.i64 ((bif decide ((bif decide (a0 ≥ (65536 : Int)) then shr IntKind.u32 a0 (16 : Int) else a0) ≥ (256 : Int)) then IntKind.wrap IntKind.i64 ((bif decide (a0 ≥ (65536 : Int)) then (16 : Int) else (0 : Int)) + (8 : Int)) else bif decide (a0 ≥ (65536 : Int)) then (16 : Int) else (0 : Int)) + IntKind.wrap IntKind.i64 (List.getD (ofBytes { data := List.toArray (List.append (List.append [(0 : UInt8), (1 : UInt8), (2 : UInt8), (2 : UInt8), (3 : UInt8), (3 : UInt8), (3 : UInt8), (3 : UInt8), (4 : UInt8), (4 : UInt8), (4 : UInt8), (4 : UInt8), (4 : UInt8), (4 : UInt8), (4 : UInt8), (4 : UInt8), (5 : UInt8), (5 : UInt8), (5 : UInt8), (5 : UInt8), (5 : UInt8), (5 : UInt8), (5 : UInt8), (5 : UInt8), (5 : UInt8), (5 : UInt8), (5 : UInt8), (5 : UInt8), (5 : UInt8), (5 : UInt8), (5 : UInt8), (5 : UInt8), (6 : UInt8), (6 : UInt8), (6 : UInt8), (6 : UInt8), (6 : UInt8), (6 : UInt8), (6 : UInt8), (6 : UInt8), (6 : UInt8), (6 : UInt8), (6 : UInt8), (6 : UInt8), (6 : UInt8), (6 : UInt8), (6 : UInt8), (6 : UInt8), (6 : UInt8), (6 : UInt8), (6 : UInt8), (6 : UInt8), (6 : UInt8), (6 : UInt8), (6 : UInt8), (6 : UInt8), (6 : UInt8), (6 : UInt8), (6 : UInt8), (6 : UInt8), (6 : UInt8), (6 : UInt8), (6 : UInt8), (6 : UInt8)] [(7 : UInt8), (7 : UInt8), (7 : UInt8), (7 : UInt8), (7 : UInt8), (7 : UInt8), (7 : UInt8), (7 : UInt8), (7 : UInt8), (7 : UInt8), (7 : UInt8), (7 : UInt8), (7 : UInt8), (7 : UInt8), (7 : UInt8), (7 : UInt8), (7 : UInt8), (7 : UInt8), (7 : UInt8), (7 : UInt8), (7 : UInt8), (7 : UInt8), (7 : UInt8), (7 : UInt8), (7 : UInt8), (7 : UInt8), (7 : UInt8), (7 : UInt8), (7 : UInt8), (7 : UInt8), (7 : UInt8), (7 : UInt8), (7 : UInt8), (7 : UInt8), (7 : UInt8), (7 : UInt8), (7 : UInt8), (7 : UInt8), (7 : UInt8), (7 : UInt8), (7 : UInt8), (7 : UInt8), (7 : UInt8), (7 : UInt8), (7 : UInt8), (7 : UInt8), (7 : UInt8), (7 : UInt8), (7 : UInt8), (7 : UInt8), (7 : UInt8), (7 : UInt8), (7 : UInt8), (7 : UInt8), (7 : UInt8), (7 : UInt8), (7 : UInt8), (7 : UInt8), (7 : UInt8), (7 : UInt8), (7 : UInt8), (7 : UInt8), (7 : UInt8), (7 : UInt8)]) (List.append [(8 : UInt8), (8 : UInt8), (8 : UInt8), (8 : UInt8), (8 : UInt8), (8 : UInt8), (8 : UInt8), (8 : UInt8), (8 : UInt8), (8 : UInt8), (8 : UInt8), (8 : UInt8), (8 : UInt8), (8 : UInt8), (8 : UInt8), (8 : UInt8), (8 : UInt8), (8 : UInt8), (8 : UInt8), (8 : UInt8), (8 : UInt8), (8 : UInt8), (8 : UInt8), (8 : UInt8), (8 : UInt8), (8 : UInt8), (8 : UInt8), (8 : UInt8), (8 : UInt8), (8 : UInt8), (8 : UInt8), (8 : UInt8), (8 : UInt8), (8 : UInt8), (8 : UInt8), (8 : UInt8), (8 : UInt8), (8 : UInt8), (8 : UInt8), (8 : UInt8), (8 : UInt8), (8 : UInt8), (8 : UInt8), (8 : UInt8), (8 : UInt8), (8 : UInt8), (8 : UInt8), (8 : UInt8), (8 : UInt8), (8 : UInt8), (8 : UInt8), (8 : UInt8), (8 : UInt8), (8 : UInt8), (8 : UInt8), (8 : UInt8), (8 : UInt8), (8 : UInt8), (8 : UInt8), (8 : UInt8), (8 : UInt8), (8 : UInt8), (8 : UInt8), (8 : UInt8)] [(8 : UInt8), (8 : UInt8), (8 : UInt8), (8 : UInt8), (8 : UInt8), (8 : UInt8), (8 : UInt8), (8 : UInt8), (8 : UInt8), (8 : UInt8), (8 : UInt8), (8 : UInt8), (8 : UInt8), (8 : UInt8), (8 : UInt8), (8 : UInt8), (8 : UInt8), (8 : UInt8), (8 : UInt8), (8 : UInt8), (8 : UInt8), (8 : UInt8), (8 : UInt8), (8 : UInt8), (8 : UInt8), (8 : UInt8), (8 : UInt8), (8 : UInt8), (8 : UInt8), (8 : UInt8), (8 : UInt8), (8 : UInt8), (8 : UInt8), (8 : UInt8), (8 : UInt8), (8 : UInt8), (8 : UInt8), (8 : UInt8), (8 : UInt8), (8 : UInt8), (8 : UInt8), (8 : UInt8), (8 : UInt8), (8 : UInt8), (8 : UInt8), (8 : UInt8), (8 : UInt8), (8 : UInt8), (8 : UInt8), (8 : UInt8), (8 : UInt8), (8 : UInt8), (8 : UInt8), (8 : UInt8), (8 : UInt8), (8 : UInt8), (8 : UInt8), (8 : UInt8), (8 : UInt8), (8 : UInt8), (8 : UInt8), (8 : UInt8), (8 : UInt8), (8 : UInt8)])) }) (Int.toNat (IntKind.wrap IntKind.u8 (bif decide ((bif decide (a0 ≥ (65536 : Int)) then shr IntKind.u32 a0 (16 : Int) else a0) ≥ (256 : Int)) then shr IntKind.u32 (bif decide (a0 ≥ (65536 : Int)) then shr IntKind.u32 a0 (16 : Int) else a0) (8 : Int) else bif decide (a0 ≥ (65536 : Int)) then shr IntKind.u32 a0 (16 : Int) else a0))) (0 : Int)))) else none
theorem bits_Len32.eq (a0 : Int) : body Try.prog bits_Len32.C bits_Len32.env bits_Len32.L Try.f71 [⟨Ty.int IntKind.u32, a0⟩] = bits_Len32.tree a0 (fun r0 => some ([⟨Ty.int IntKind.i64, r0⟩] : List DVal)) := by kernel_rfl
theorem u8_guard (z : Int) : (decide ((0 : Int) ≤ IntKind.wrap IntKind.u8 z) && decide (IntKind.wrap IntKind.u8 z < (256 : Int))) = true := by
  rw [IntKind.wrap_u8, decide_eq_true (by omega), decide_eq_true (by omega)]
  rfl
def bits_Len32 (v : Int) : Int := (bits_Len32.tree (R := Int) v some).getD 0
theorem bits_Len32.nice {R : Type} (v : Int) (ret : Int → Option R) : bits_Len32.tree v ret = ret (bits_Len32 v) := by
  unfold bits_Len32 bits_Len32.tree
  rw [u8_guard]
  rfl
def bits_Len32.ctr : Ctr := ctrOf [Ty.int IntKind.u32] fun x => .ret [⟨Ty.int IntKind.i64, bits_Len32 (x.1)⟩]
theorem bits_Len32.known : Known Try.prog 71 bits_Len32.ctr :=
  known_plain bits_Len32.envOk mixed Try.func71 (by kernel_rfl) (by kernel_rfl) (noLoops (by kernel_rfl)) (bySpot (ids := [3000002, 3000005]) (by kernel_rfl) (by intro q hq; simp only [List.mem_cons, List.not_mem_nil, or_false] at hq; rcases hq with rfl | rfl <;> first | exact bits_Len32.sum3000002_ok | exact bits_Len32.sum3000005_ok)) fun x rs h => by
    obtain ⟨a0, u⟩ := x
    cases u
    simp only [Cmd.val_ret] at h
    exact (bits_Len32.eq a0).trans ((bits_Len32.nice a0 (fun r0 => some ([⟨Ty.int IntKind.i64, r0⟩] : List DVal))).trans h)

/-! ### bits_LeadingZeros32 -/
def bits_LeadingZeros32.env : Env := envCons 71 bits_Len32.ctr <| envNil
theorem bits_LeadingZeros32.envOk : EnvOk Try.prog bits_LeadingZeros32.env := envOk_cons bits_Len32.known (envOk_nil _)
def bits_LeadingZeros32.C : Cfg := { rows := [], keep := [], adopt := [] }
def bits_LeadingZeros32.tree {R : Type} (a0 : Int) (ret : Int → Option R) : Option R :=
  ret (IntKind.wrap IntKind.i64 ((32 : Int) - bits_Len32 a0))
theorem bits_LeadingZeros32.eq (a0 : Int) : body Try.prog bits_LeadingZeros32.C bits_LeadingZeros32.env noL Try.f66 [⟨Ty.int IntKind.u32, a0⟩] = bits_LeadingZeros32.tree a0 (fun r0 => some ([⟨Ty.int IntKind.i64, r0⟩] : List DVal)) := by kernel_rfl
def bits_LeadingZeros32 (a0 : Int) : Int :=
  IntKind.wrap IntKind.i64 ((32 : Int) - bits_Len32 a0)
theorem bits_LeadingZeros32.nice {R : Type} (a0 : Int) (ret : Int → Option R) : bits_LeadingZeros32.tree a0 ret = ret (bits_LeadingZeros32 a0) := by
  unfold bits_LeadingZeros32.tree bits_LeadingZeros32
  simp only [Bool.apply_cond ret]
def bits_LeadingZeros32.ctr : Ctr := ctrOf [Ty.int IntKind.u32] fun x => .ret [⟨Ty.int IntKind.i64, bits_LeadingZeros32 (x.1)⟩]
theorem bits_LeadingZeros32.known : Known Try.prog 66 bits_LeadingZeros32.ctr :=
  known_plain bits_LeadingZeros32.envOk mixed Try.func66 (by kernel_rfl) (by kernel_rfl) (noLoops (by kernel_rfl)) (noSpots (by kernel_rfl)) fun x rs h => by
    obtain ⟨a0, u⟩ := x
    cases u
    simp only [Cmd.val_ret] at h
    exact (bits_LeadingZeros32.eq a0).trans ((bits_LeadingZeros32.nice a0 (fun r0 => some ([⟨Ty.int IntKind.i64, r0⟩] : List DVal))).trans h)

/-! ### word_Clz -/
def word_Clz.env : Env := envCons 66 bits_LeadingZeros32.ctr <| envNil
theorem word_Clz.envOk : EnvOk Try.prog word_Clz.env := envOk_cons bits_LeadingZeros32.known (envOk_nil _)
def word_Clz.C : Cfg := { rows := [], keep := [], adopt := [] }
def word_Clz.tree {R : Type} (a0 : Int) (ret : Int → Option R) : Option R :=
  ret (bits_LeadingZeros32 a0)
theorem word_Clz.eq (a0 : Int) : body Try.prog word_Clz.C word_Clz.env noL Try.f34 [⟨Ty.int IntKind.u32, a0⟩] = word_Clz.tree a0 (fun r0 => some ([⟨Ty.int IntKind.i64, r0⟩] : List DVal)) := by kernel_rfl
def word_Clz (a0 : Int) : Int :=
  bits_LeadingZeros32 a0
theorem word_Clz.nice {R : Type} (a0 : Int) (ret : Int → Option R) : word_Clz.tree a0 ret = ret (word_Clz a0) := by
  unfold word_Clz.tree word_Clz
  simp only [Bool.apply_cond ret]
def word_Clz.ctr : Ctr := ctrOf [Ty.int IntKind.u32] fun x => .ret [⟨Ty.int IntKind.i64, word_Clz (x.1)⟩]
theorem word_Clz.known : Known Try.prog 34 word_Clz.ctr :=
  known_plain word_Clz.envOk mixed Try.func34 (by kernel_rfl) (by kernel_rfl) (noLoops (by kernel_rfl)) (noSpots (by kernel_rfl)) fun x rs h => by
    obtain ⟨a0, u⟩ := x
    cases u
    simp only [Cmd.val_ret] at h
    exact (word_Clz.eq a0).trans ((word_Clz.nice a0 (fun r0 => some ([⟨Ty.int IntKind.i64, r0⟩] : List DVal))).trans h)

/-! ### word_Expand -/
def word_Expand.env : Env := envCons 63 bits_RotateLeft32.ctr <| envCons 62 word_bit.ctr <| envNil
theorem word_Expand.envOk : EnvOk Try.prog word_Expand.env := envOk_cons bits_RotateLeft32.known (envOk_cons word_bit.known (envOk_nil _))
def word_Expand.T2000006 : Tm := ⟨fill 0 45 [(1, Sl.data Ty.bool), (8, Sl.data (Ty.int IntKind.u32)), (10, Sl.data (Ty.int IntKind.u32))], []⟩
def word_Expand.X2000006_normal : Tm := ⟨fill 0 45 [(1, Sl.data Ty.bool), (8, Sl.data (Ty.int IntKind.u32)), (10, Sl.data (Ty.int IntKind.u32)), (36, Sl.data Ty.bool)], []⟩
def word_Expand.o2000006 {R : Type} (v0 : Bool) (v1 : Int) (v2 : Int) (knormal : Bool → Int → Int → Bool → Option R) : Option R :=
  bif decide (v2 > (0 : Int)) then knormal v0 v1 v2 (v1 == (0 : Int)) else knormal v0 v1 v2 false
def word_Expand.s2000006 {R : Type} (v0 : Bool) (v1 : Int) (v2 : Int) (knormal : Bool → Int → Int → Bool → Option R) : Option R :=
  knormal v0 v1 v2 (decide (v2 > (0 : Int)) && v1 == (0 : Int))
theorem word_Expand.s2000006_eq {R : Type} (v0 : Bool) (v1 : Int) (v2 : Int) (knormal : Bool → Int → Int → Bool → Option R) : word_Expand.s2000006 v0 v1 v2 knormal = word_Expand.o2000006 v0 v1 v2 knormal := by
  unfold word_Expand.s2000006 word_Expand.o2000006
  (cases hc : decide (v2 > (0 : Int)) with | false => (first | rfl | simp_all) | true => (first | rfl | simp_all))
def word_Expand.C : Cfg := { rows := [], keep := [(2000006, [1, 8, 10], []), (12000006, [1, 8, 10, 36], [])], adopt := [] }
def word_Expand.sum2000006 : FrV word_Expand.T2000006.fr × StV word_Expand.T2000006.st → (Ex → S → Option (List DVal)) → Option (List DVal) := fun ((v0, v1, v2, ()), (())) K => word_Expand.s2000006 v0 v1 v2 (fun e0 e1 e2 e3 => K .normal (pack word_Expand.X2000006_normal ((e0, e1, e2, e3, ()), (()))))
def word_Expand.L : Nat → Option Sum := fun i => if i = 2000006 then some (sumOf word_Expand.T2000006 word_Expand.sum2000006) else none
theorem word_Expand.x2000006 : ∀ v (K : Ex → S → Option (List DVal)), exec1 Try.prog word_Expand.C word_Expand.env word_Expand.L (spotOf Try.f30 2000006).2.1 (spotOf Try.f30 2000006).2.2 (pack word_Expand.T2000006 v) (fun e s' => K e (trim word_Expand.C (2000006 + 10000000) s')) = (fun (((v0, v1, v2, ()), (())) : FrV word_Expand.T2000006.fr × StV word_Expand.T2000006.st) => word_Expand.o2000006 v0 v1 v2 (fun e0 e1 e2 e3 => K .normal (pack word_Expand.X2000006_normal ((e0, e1, e2, e3, ()), (()))))) v :=
  fun ((v0, v1, v2, ()), (())) K => by kernel_rfl
theorem word_Expand.sum2000006_ok : SpotOk Try.prog word_Expand.C word_Expand.env word_Expand.L (spotOf Try.f30 2000006) := spotOk_of (T := word_Expand.T2000006) (q := 2000006) (f := word_Expand.sum2000006) (by kernel_rfl) (by kernel_rfl) fun ((v0, v1, v2, ()), (())) K r h => (word_Expand.x2000006 _ K).trans ((word_Expand.s2000006_eq v0 v1 v2 (fun e0 e1 e2 e3 => K .normal (pack word_Expand.X2000006_normal ((e0, e1, e2, e3, ()), (()))))).symm.trans h)
def word_Expand.tree {R : Type} (a0 : Int) (a1 : Bool) (ret : Int → Bool → Bool → Option R) : Option R :=
  bif shr IntKind.u32 (bitop BinOp.and IntKind.u32 a0 (4095 : Int)) (10 : Int) != (0 : Int) then bif word_bit.pre (bits_RotateLeft32 (bitop BinOp.or IntKind.u32 (bitop BinOp.and IntKind.u32 (bitop BinOp.and IntKind.u32 a0 (255 : Int)) (127 : Int)) (128 : Int)) (IntKind.wrap IntKind.i64 ((0 : Int) - IntKind.wrap IntKind.i64 (shr IntKind.u32 (bitop BinOp.and IntKind.u32 a0 (4095 : Int)) (7 : Int))))) (31 : Int) then ret (bits_RotateLeft32 (bitop BinOp.or IntKind.u32 (bitop BinOp.and IntKind.u32 (bitop BinOp.and IntKind.u32 a0 (255 : Int)) (127 : Int)) (128 : Int)) (IntKind.wrap IntKind.i64 ((0 : Int) - IntKind.wrap IntKind.i64 (shr IntKind.u32 (bitop BinOp.and IntKind.u32 a0 (4095 : Int)) (7 : Int))))) (word_bit (bits_RotateLeft32 (bitop BinOp.or IntKind.u32 (bitop BinOp.and IntKind.u32 (bitop BinOp.and IntKind.u32 a0 (255 : Int)) (127 : Int)) (128 : Int)) (IntKind.wrap IntKind.i64 ((0 : Int) - IntKind.wrap IntKind.i64 (shr IntKind.u32 (bitop BinOp.and IntKind.u32 a0 (4095 : Int)) (7 : Int))))) (31 : Int)) true else none else bif decide (shr IntKind.u32 (bitop BinOp.and IntKind.u32 a0 (4095 : Int)) (8 : Int) > (0 : Int)) && bitop BinOp.and IntKind.u32 a0 (255 : Int) == (0 : Int) then ret (0 : Int) a1 false else bif decide ((0 : Int) ≤ shr IntKind.u32 (bitop BinOp.and IntKind.u32 a0 (4095 : Int)) (8 : Int)) && decide (shr IntKind.u32 (bitop BinOp.and IntKind.u32 a0 (4095 : Int)) (8 : Int) < (4 : Int)) then ret (IntKind.wrap IntKind.u32 (bitop BinOp.and IntKind.u32 a0 (255 : Int) * List.getD [(1 : Int), (65537 : Int), (16777472 : Int), (16843009 : Int)] (Int.toNat (shr IntKind.u32 (bitop BinOp.and IntKind.u32 a0 (4095 : Int)) (8 : Int))) (0 : Int))) a1 true else none
theorem word_Expand.eq (a0 : Int) (a1 : Bool) : body Try.prog word_Expand.C word_Expand.env word_Expand.L Try.f30 [⟨Ty.int IntKind.u32, a0⟩, ⟨Ty.bool, a1⟩] = word_Expand.tree a0 a1 (fun r0 r1 r2 => some ([⟨Ty.int IntKind.u32, r0⟩, ⟨Ty.bool, r1⟩, ⟨Ty.bool, r2⟩] : List DVal)) := by kernel_rfl
def ex_x (i : Int) : Int := bitop .and .u32 i 4095
theorem ex_x_range (i : Int) : 0 ≤ ex_x i ∧ ex_x i ≤ 4095 := bitop_and_small (k := .u32) (.inr (.inl rfl)) i 4095 (by omega)
def ex_rot (i : Int) : Int := bits_RotateLeft32 (bitop .or .u32 (bitop .and .u32 (bitop .and .u32 i 255) 127) 128) (IntKind.wrap .i64 (0 - IntKind.wrap .i64 (shr .u32 (ex_x i) 7)))
def word_Expand.pre (i : Int) (c : Bool) : Bool := true
def word_Expand (i : Int) (c : Bool) : Int × Bool × Bool :=
  bif shr .u32 (ex_x i) 10 != 0 then (ex_rot i, word_bit (ex_rot i) 31, true)
  else bif decide (shr .u32 (ex_x i) 8 > 0) && bitop .and .u32 i 255 == 0 then (0, c, false)
  else (IntKind.wrap .u32 (bitop .and .u32 i 255 * List.getD [(1 : Int), 65537, 16777472, 16843009] (Int.toNat (shr .u32 (ex_x i) 8)) 0), c, true)
theorem word_Expand.nice {R : Type} (i : Int) (c : Bool) (hp : word_Expand.pre i c = true) (ret : Int → Bool → Bool → Option R) : word_Expand.tree i c ret = ret (word_Expand i c).1 (word_Expand i c).2.1 (word_Expand i c).2.2 := by
  unfold word_Expand.tree word_Expand
  rw [show bitop .and .u32 i 4095 = ex_x i from rfl]
  rw [show word_bit.pre (bits_RotateLeft32 (bitop .or .u32 (bitop .and .u32 (bitop .and .u32 i 255) 127) 128) (IntKind.wrap .i64 (0 - IntKind.wrap .i64 (shr .u32 (ex_x i) 7)))) 31 = true from rfl]
  cases h : shr .u32 (ex_x i) 10 != 0 with
  | true => rfl
  | false =>
    have h10 : shr .u32 (ex_x i) 10 = 0 := by simpa using h
    have hr := ex_x_range i
    have e10 : shr .u32 (ex_x i) 10 = ex_x i / 1024 := shr_u32 (y := 10) (by omega)
    have e8 := shr_u32_8 (ex_x i)
    have g : (decide ((0 : Int) ≤ shr .u32 (ex_x i) 8) && decide (shr .u32 (ex_x i) 8 < 4)) = true := by
      rw [e8, decide_eq_true (by omega), decide_eq_true (by omega)]
      rfl
    rw [g]
    cases decide (shr .u32 (ex_x i) 8 > 0) && bitop .and .u32 i 255 == 0 <;> rfl
def word_Expand.ctr : Ctr := ctrOf [Ty.int IntKind.u32, Ty.bool] fun x => .guard (word_Expand.pre (x.1) (x.2.1)) (.ret [⟨Ty.int IntKind.u32, (word_Expand (x.1) (x.2.1)).1⟩, ⟨Ty.bool, (word_Expand (x.1) (x.2.1)).2.1⟩, ⟨Ty.bool, (word_Expand (x.1) (x.2.1)).2.2⟩])
theorem word_Expand.known : Known Try.prog 30 word_Expand.ctr :=
  known_plain word_Expand.envOk mixed Try.func30 (by kernel_rfl) (by kernel_rfl) (noLoops (by kernel_rfl)) (bySpot (ids := [2000006]) (by kernel_rfl) (by intro q hq; simp only [List.mem_cons, List.not_mem_nil, or_false] at hq; subst hq; first | exact word_Expand.sum2000006_ok)) fun x rs h => by
    obtain ⟨a0, a1, u⟩ := x
    cases u
    simp only [Cmd.val_guard, Cmd.val_ret] at h
    split at h <;> try (cases h; done)
    rename_i hp
    exact (word_Expand.eq a0 a1).trans ((word_Expand.nice a0 a1 hp (fun r0 r1 r2 => some ([⟨Ty.int IntKind.u32, r0⟩, ⟨Ty.bool, r1⟩, ⟨Ty.bool, r2⟩] : List DVal))).trans h)

/-! ### word_Compress -/
def word_Compress.env : Env := envCons 30 word_Expand.ctr <| envNil
theorem word_Compress.envOk : EnvOk Try.prog word_Compress.env := envOk_cons word_Expand.known (envOk_nil _)
def comp_from (v : Int) : Nat → Int → Option Int
  | 0, _ => none
  | n + 1, i => bif (word_Expand i false).2.2 && (word_Expand i false).1 == v then some i else comp_from v n (i + 1)
def word_Compress.T2000005 : Tm := ⟨fill 0 25 [(0, Sl.data (Ty.int IntKind.u32)), (4, Sl.data (Ty.int IntKind.u32)), (5, Sl.data (Ty.int IntKind.u32)), (7, Sl.data Ty.bool), (8, Sl.data (Ty.int IntKind.u32))], []⟩
def word_Compress.X2000005_normal : Tm := ⟨fill 0 25 [(0, Sl.data (Ty.int IntKind.u32)), (4, Sl.data (Ty.int IntKind.u32)), (8, Sl.data (Ty.int IntKind.u32)), (22, Sl.data Ty.bool)], []⟩
def word_Compress.o2000005 {R : Type} (v0 : Int) (v1 : Int) (v2 : Int) (v3 : Bool) (v4 : Int) (knormal : Int → Int → Int → Bool → Option R) : Option R :=
  bif v3 then knormal v0 v1 v4 (v2 == v0) else knormal v0 v1 v4 false
def word_Compress.s2000005 {R : Type} (v0 : Int) (v1 : Int) (v2 : Int) (v3 : Bool) (v4 : Int) (knormal : Int → Int → Int → Bool → Option R) : Option R :=
  knormal v0 v1 v4 (v3 && v2 == v0)
theorem word_Compress.s2000005_eq {R : Type} (v0 : Int) (v1 : Int) (v2 : Int) (v3 : Bool) (v4 : Int) (knormal : Int → Int → Int → Bool → Option R) : word_Compress.s2000005 v0 v1 v2 v3 v4 knormal = word_Compress.o2000005 v0 v1 v2 v3 v4 knormal := by
  unfold word_Compress.s2000005 word_Compress.o2000005
  (cases hc : v3 with | false => (first | rfl | simp_all) | true => (first | rfl | simp_all))
def word_Compress.T0 : Tm := ⟨fill 0 25 [(0, Sl.data (Ty.int IntKind.u32)), (8, Sl.data (Ty.int IntKind.u32))], []⟩
def word_Compress.X0_ret : Tm := ⟨fill 0 25 [(2, Sl.data (Ty.int IntKind.u32)), (3, Sl.data Ty.bool)], []⟩
def word_Compress.X0_exit0 : Tm := ⟨fill 0 25 [], []⟩
def word_Compress.round0 {R : Type} (v0 : Int) (v1 : Int) (next : Int → Int → Option R) (kret : Int → Bool → Option R) (kexit0 : Option R) : Option R :=
  bif decide (v1 < (4096 : Int)) then bif word_Expand.pre v1 false then bif Prod.snd (Prod.snd (word_Expand v1 false)) && Prod.fst (word_Expand v1 false) == v0 then kret v1 true else next v0 (IntKind.wrap IntKind.u32 (v1 + (1 : Int))) else none else kexit0
def word_Compress.R0 {R : Type} (kret : Int → Bool → Option R) (kexit0 : Option R) : (Int × Int) → ((Int × Int) → Option R) → Option R := fun (v0, v1) next => word_Compress.round0 v0 v1 (fun w0 w1 => next (w0, w1)) kret kexit0
theorem word_Compress.R0_eq {R : Type} (kret : Int → Bool → Option R) (kexit0 : Option R) (v0 : Int) (v1 : Int) (next : (Int × Int) → Option R) : word_Compress.R0 kret kexit0 (v0, v1) next = word_Compress.round0 v0 v1 (fun w0 w1 => next (w0, w1)) kret kexit0 := rfl
def word_Compress.loop0 {R : Type} (v0 : Int) (v1 : Int) (kret : Int → Bool → Option R) (kexit0 : Option R) : Option R :=
  if 0 ≤ v1 ∧ v1 ≤ 4096 then (match comp_from v0 (4096 - v1).toNat v1 with | some j => kret j true | none => kexit0) else none
theorem word_Compress.loop0_ok {R : Type} (v0 : Int) (v1 : Int) (kret : Int → Bool → Option R) (kexit0 : Option R) (r : R) (h : word_Compress.loop0 v0 v1 kret kexit0 = some r) : ∃ n, lp (word_Compress.R0 kret kexit0) n (v0, v1) = some r := by
  unfold word_Compress.loop0 at h
  split at h <;> try (cases h; done)
  rename_i hc
  obtain ⟨h1, h2⟩ := hc
  rw [← h]
  refine lp_spec (round := word_Compress.R0 kret kexit0) (spec := fun (v, i) => match comp_from v (4096 - i).toNat i with | some j => kret j true | none => kexit0) (inv := fun (v, i) => 0 ≤ i ∧ i ≤ 4096) (μ := fun (v, i) => (4096 - i).toNat) ?_ (v0, v1) ⟨h1, h2⟩
  rintro ⟨v, i⟩ ⟨k1, k2⟩ next hn
  rw [word_Compress.R0_eq, word_Compress.round0]
  by_cases hi : i < 4096
  · have hnx := hn (v, i + 1) ⟨by omega, by omega⟩ (by simp only; omega)
    have e : IntKind.wrap .u32 (i + 1) = i + 1 := by rw [IntKind.wrap_u32]; omega
    rw [decide_eq_true hi, e, show word_Expand.pre i false = true from rfl]
    dsimp only
    rw [hnx, show (4096 - i).toNat = (4096 - (i + 1)).toNat + 1 by omega, comp_from]
    cases (word_Expand i false).2.2 && (word_Expand i false).1 == v <;> rfl
  · rw [decide_eq_false hi]
    dsimp only
    rw [show (4096 - i).toNat = 0 by omega]
    rfl
def word_Compress.C : Cfg := { rows := [], keep := [(0, [0, 8], []), (1000000, [2, 3], []), (2000005, [0, 4, 5, 7, 8], []), (12000005, [0, 4, 8, 22], [])], adopt := [] }
def word_Compress.sum2000005 : FrV word_Compress.T2000005.fr × StV word_Compress.T2000005.st → (Ex → S → Option (List DVal)) → Option (List DVal) := fun ((v0, v1, v2, v3, v4, ()), (())) K => word_Compress.s2000005 v0 v1 v2 v3 v4 (fun e0 e1 e2 e3 => K .normal (pack word_Compress.X2000005_normal ((e0, e1, e2, e3, ()), (()))))
def word_Compress.sum0 : FrV word_Compress.T0.fr × StV word_Compress.T0.st → (Ex → S → Option (List DVal)) → Option (List DVal) := fun ((v0, v1, ()), (())) K => word_Compress.loop0 v0 v1 (fun e0 e1 => K .ret (pack word_Compress.X0_ret ((e0, e1, ()), (())))) (K (.exit 0) (pack word_Compress.X0_exit0 ((), ())))
def word_Compress.rnd0 : FrV word_Compress.T0.fr × StV word_Compress.T0.st → (FrV word_Compress.T0.fr × StV word_Compress.T0.st → Option (List DVal)) → (Ex → S → Option (List DVal)) → Option (List DVal) := fun ((v0, v1, ()), (())) next K => word_Compress.round0 v0 v1 (fun w0 w1 => next ((w0, w1, ()), (()))) (fun e0 e1 => K .ret (pack word_Compress.X0_ret ((e0, e1, ()), (())))) (K (.exit 0) (pack word_Compress.X0_exit0 ((), ())))
def word_Compress.L : Nat → Option Sum := fun i => if i = 0 then some (sumOf word_Compress.T0 word_Compress.sum0) else if i = 2000005 then some (sumOf word_Compress.T2000005 word_Compress.sum2000005) else none
theorem word_Compress.rnd0_eq : ∀ v (r : S → Option (List DVal)) (K : Ex → S → Option (List DVal)), exec Try.prog word_Compress.C word_Compress.env word_Compress.L 0 (loopOf Try.f32 0) (pack word_Compress.T0 v) (fun e s' => match e with | .normal => r (trim word_Compress.C 0 s') | e => K e (trim word_Compress.C (0 + 1000000) s')) = word_Compress.rnd0 v (fun v' => r (pack word_Compress.T0 v')) K :=
  fun ((v0, v1, ()), (())) r K => by kernel_rfl
theorem word_Compress.lp0 (K : Ex → S → Option (List DVal)) : ∀ (n : Nat) (v0 : Int) (v1 : Int), lp (fun v next => word_Compress.rnd0 v next K) n ((v0, v1, ()), (())) = lp (word_Compress.R0 (fun e0 e1 => K .ret (pack word_Compress.X0_ret ((e0, e1, ()), (())))) (K (.exit 0) (pack word_Compress.X0_exit0 ((), ())))) n (v0, v1) := by
  intro n
  induction n with
  | zero => intros; rfl
  | succ n ih =>
    intro v0 v1
    show word_Compress.round0 v0 v1 (fun w0 w1 => lp (fun v next => word_Compress.rnd0 v next K) n ((w0, w1, ()), (()))) (fun e0 e1 => K .ret (pack word_Compress.X0_ret ((e0, e1, ()), (())))) (K (.exit 0) (pack word_Compress.X0_exit0 ((), ()))) = word_Compress.round0 v0 v1 (fun w0 w1 => lp (word_Compress.R0 (fun e0 e1 => K .ret (pack word_Compress.X0_ret ((e0, e1, ()), (())))) (K (.exit 0) (pack word_Compress.X0_exit0 ((), ())))) n (w0, w1)) (fun e0 e1 => K .ret (pack word_Compress.X0_ret ((e0, e1, ()), (())))) (K (.exit 0) (pack word_Compress.X0_exit0 ((), ())))
    simp only [ih]
theorem word_Compress.sum0_ok : SumOk Try.prog word_Compress.C word_Compress.env word_Compress.L 0 (loopOf Try.f32 0) := sumOk_lp (T := word_Compress.T0) (rnd := word_Compress.rnd0) (f := word_Compress.sum0) rfl word_Compress.rnd0_eq fun ((v0, v1, ()), (())) K r h => by
  obtain ⟨n, hn⟩ := word_Compress.loop0_ok v0 v1 (fun e0 e1 => K .ret (pack word_Compress.X0_ret ((e0, e1, ()), (())))) (K (.exit 0) (pack word_Compress.X0_exit0 ((), ()))) r h
  exact ⟨n, by rw [word_Compress.lp0]; exact hn⟩
theorem word_Compress.x2000005 : ∀ v (K : Ex → S → Option (List DVal)), exec1 Try.prog word_Compress.C word_Compress.env word_Compress.L (spotOf Try.f32 2000005).2.1 (spotOf Try.f32 2000005).2.2 (pack word_Compress.T2000005 v) (fun e s' => K e (trim word_Compress.C (2000005 + 10000000) s')) = (fun (((v0, v1, v2, v3, v4, ()), (())) : FrV word_Compress.T2000005.fr × StV word_Compress.T2000005.st) => word_Compress.o2000005 v0 v1 v2 v3 v4 (fun e0 e1 e2 e3 => K .normal (pack word_Compress.X2000005_normal ((e0, e1, e2, e3, ()), (()))))) v :=
  fun ((v0, v1, v2, v3, v4, ()), (())) K => by kernel_rfl
theorem word_Compress.sum2000005_ok : SpotOk Try.prog word_Compress.C word_Compress.env word_Compress.L (spotOf Try.f32 2000005) := spotOk_of (T := word_Compress.T2000005) (q := 2000005) (f := word_Compress.sum2000005) (by kernel_rfl) (by kernel_rfl) fun ((v0, v1, v2, v3, v4, ()), (())) K r h => (word_Compress.x2000005 _ K).trans ((word_Compress.s2000005_eq v0 v1 v2 v3 v4 (fun e0 e1 e2 e3 => K .normal (pack word_Compress.X2000005_normal ((e0, e1, e2, e3, ()), (()))))).symm.trans h)
def word_Compress.tree {R : Type} (a0 : Int) (ret : Int → Bool → Option R) : Option R :=
  word_Compress.loop0 a0 (0 : Int) (fun e0 e1 => ret e0 e1) (ret (0 : Int) false)
theorem word_Compress.eq (a0 : Int) : body Try.prog word_Compress.C word_Compress.env word_Compress.L Try.f32 [⟨Ty.int IntKind.u32, a0⟩] = word_Compress.tree a0 (fun r0 r1 => some ([⟨Ty.int IntKind.u32, r0⟩, ⟨Ty.bool, r1⟩] : List DVal)) := by kernel_rfl
def word_Compress.pre (v : Int) : Bool := true
def word_Compress (v : Int) : Int × Bool := match comp_from v 4096 0 with | some j => (j, true) | none => (0, false)
theorem word_Compress.nice {R : Type} (v : Int) (hp : word_Compress.pre v = true) (ret : Int → Bool → Option R) : word_Compress.tree v ret = ret (word_Compress v).1 (word_Compress v).2 := by
  unfold word_Compress.tree word_Compress.loop0 word_Compress
  rw [if_pos ⟨by decide, by decide⟩, show ((4096 : Int) - 0).toNat = 4096 from rfl]
  cases comp_from v 4096 0 <;> rfl

def word_Compress.ctr : Ctr := ctrOf [Ty.int IntKind.u32] fun x => .guard (word_Compress.pre (x.1)) (.ret [⟨Ty.int IntKind.u32, (word_Compress (x.1)).1⟩, ⟨Ty.bool, (word_Compress (x.1)).2⟩])
theorem word_Compress.known : Known Try.prog 32 word_Compress.ctr :=
  known_plain word_Compress.envOk mixed Try.func32 (by kernel_rfl) (by kernel_rfl) (byId (by kernel_rfl : loopIds Try.f32 = [0]) (by intro q hq; simp only [List.mem_cons, List.not_mem_nil, or_false] at hq; subst hq; first | exact word_Compress.sum0_ok)) (bySpot (ids := [2000005]) (by kernel_rfl) (by intro q hq; simp only [List.mem_cons, List.not_mem_nil, or_false] at hq; subst hq; first | exact word_Compress.sum2000005_ok)) fun x rs h => by
    obtain ⟨a0, u⟩ := x
    cases u
    simp only [Cmd.val_guard, Cmd.val_ret] at h
    split at h <;> try (cases h; done)
    rename_i hp
    exact (word_Compress.eq a0).trans ((word_Compress.nice a0 hp (fun r0 r1 => some ([⟨Ty.int IntKind.u32, r0⟩, ⟨Ty.bool, r1⟩] : List DVal))).trans h)
end
end Go.D.Ytbcjiicaekfjlaa
