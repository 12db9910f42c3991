import Derived.Test.YtbcjiicaekfjlaaChecked
import Derived.Test.YtbcjiicaekfjlaaDX
import Derived.KernelRfl
namespace Go.D.Ytbcjiicaekfjlaa
open Go.Proofs
set_option linter.unusedVariables false
set_option linter.unusedSimpArgs false
set_option maxRecDepth 100000
noncomputable section
theorem mixed : Try.prog.follows .mixedOrders = true := by kernel_rfl
def noL : Nat → Option Sum := fun _ => none
abbrev HoT : Ty := Ty.pair (Ty.int IntKind.i64) (Ty.pair (Ty.int IntKind.i64) (Ty.pair (Ty.int IntKind.i64) (Ty.pair (Ty.int IntKind.i64) (Ty.pair (Ty.int IntKind.i64) (Ty.pair (Ty.int IntKind.u32) Ty.unit)))))
abbrev Hos := HoT.den

/-! ### host_Loads -/
def host_Loads.env : Env := envNil
theorem host_Loads.envOk : EnvOk Try.prog host_Loads.env := envOk_nil _
def host_Loads.C : Cfg := { rows := [], keep := [], adopt := [] }
def host_Loads.tree {R : Type} (a0 : Int) (ret : Int → Option R) : Option R :=
  bif a0 == (22 : Int) then ret (1 : Int) else bif a0 == (23 : Int) then ret (2 : Int) else bif a0 == (24 : Int) then ret (4 : Int) else ret (0 : Int)
theorem host_Loads.eq (a0 : Int) : body Try.prog host_Loads.C host_Loads.env noL Try.f23 [⟨Ty.int IntKind.i64, a0⟩] = host_Loads.tree a0 (fun r0 => some ([⟨Ty.int IntKind.i64, r0⟩] : List DVal)) := by kernel_rfl
def host_Loads (a0 : Int) : Int :=
  bif a0 == (22 : Int) then (1 : Int) else bif a0 == (23 : Int) then (2 : Int) else bif a0 == (24 : Int) then (4 : Int) else (0 : Int)
theorem host_Loads.nice {R : Type} (a0 : Int) (ret : Int → Option R) : host_Loads.tree a0 ret = ret (host_Loads a0) := by
  unfold host_Loads.tree host_Loads
  simp only [Bool.apply_cond ret]
def host_Loads.ctr : Ctr := ctrOf [Ty.int IntKind.i64] fun x => .ret [⟨Ty.int IntKind.i64, host_Loads (x.1)⟩]
theorem host_Loads.known : Known Try.prog 23 host_Loads.ctr :=
  known_plain host_Loads.envOk mixed Try.func23 (by kernel_rfl) (by kernel_rfl) (noLoops (by kernel_rfl)) (noSpots (by kernel_rfl)) fun x rs h => by
    obtain ⟨a0, u⟩ := x
    cases u
    simp only [Cmd.val_ret] at h
    exact (host_Loads.eq a0).trans ((host_Loads.nice a0 (fun r0 => some ([⟨Ty.int IntKind.i64, r0⟩] : List DVal))).trans h)

/-! ### host_Stores -/
def host_Stores.env : Env := envNil
theorem host_Stores.envOk : EnvOk Try.prog host_Stores.env := envOk_nil _
def host_Stores.C : Cfg := { rows := [], keep := [], adopt := [] }
def host_Stores.tree {R : Type} (a0 : Int) (ret : Int → Option R) : Option R :=
  bif a0 == (25 : Int) then ret (1 : Int) else bif a0 == (26 : Int) then ret (2 : Int) else bif a0 == (27 : Int) then ret (4 : Int) else ret (0 : Int)
theorem host_Stores.eq (a0 : Int) : body Try.prog host_Stores.C host_Stores.env noL Try.f24 [⟨Ty.int IntKind.i64, a0⟩] = host_Stores.tree a0 (fun r0 => some ([⟨Ty.int IntKind.i64, r0⟩] : List DVal)) := by kernel_rfl
def host_Stores (a0 : Int) : Int :=
  bif a0 == (25 : Int) then (1 : Int) else bif a0 == (26 : Int) then (2 : Int) else bif a0 == (27 : Int) then (4 : Int) else (0 : Int)
theorem host_Stores.nice {R : Type} (a0 : Int) (ret : Int → Option R) : host_Stores.tree a0 ret = ret (host_Stores a0) := by
  unfold host_Stores.tree host_Stores
  simp only [Bool.apply_cond ret]
def host_Stores.ctr : Ctr := ctrOf [Ty.int IntKind.i64] fun x => .ret [⟨Ty.int IntKind.i64, host_Stores (x.1)⟩]
theorem host_Stores.known : Known Try.prog 24 host_Stores.ctr :=
  known_plain host_Stores.envOk mixed Try.func24 (by kernel_rfl) (by kernel_rfl) (noLoops (by kernel_rfl)) (noSpots (by kernel_rfl)) fun x rs h => by
    obtain ⟨a0, u⟩ := x
    cases u
    simp only [Cmd.val_ret] at h
    exact (host_Stores.eq a0).trans ((host_Stores.nice a0 (fun r0 => some ([⟨Ty.int IntKind.i64, r0⟩] : List DVal))).trans h)

/-! ### ref5_Loads -/
def ref5_Loads.env : Env := envNil
theorem ref5_Loads.envOk : EnvOk Try.prog ref5_Loads.env := envOk_nil _
def ref5_Loads.C : Cfg := { rows := [], keep := [], adopt := [] }
def ref5_Loads.tree {R : Type} (a0 : Int) (ret : Int → Option R) : Option R :=
  bif a0 == (22 : Int) then ret (1 : Int) else bif a0 == (23 : Int) then ret (2 : Int) else bif a0 == (24 : Int) then ret (4 : Int) else ret (0 : Int)
theorem ref5_Loads.eq (a0 : Int) : body Try.prog ref5_Loads.C ref5_Loads.env noL Try.f56 [⟨Ty.int IntKind.i64, a0⟩] = ref5_Loads.tree a0 (fun r0 => some ([⟨Ty.int IntKind.i64, r0⟩] : List DVal)) := by kernel_rfl
def ref5_Loads (a0 : Int) : Int :=
  bif a0 == (22 : Int) then (1 : Int) else bif a0 == (23 : Int) then (2 : Int) else bif a0 == (24 : Int) then (4 : Int) else (0 : Int)
theorem ref5_Loads.nice {R : Type} (a0 : Int) (ret : Int → Option R) : ref5_Loads.tree a0 ret = ret (ref5_Loads a0) := by
  unfold ref5_Loads.tree ref5_Loads
  simp only [Bool.apply_cond ret]
def ref5_Loads.ctr : Ctr := ctrOf [Ty.int IntKind.i64] fun x => .ret [⟨Ty.int IntKind.i64, ref5_Loads (x.1)⟩]
theorem ref5_Loads.known : Known Try.prog 56 ref5_Loads.ctr :=
  known_plain ref5_Loads.envOk mixed Try.func56 (by kernel_rfl) (by kernel_rfl) (noLoops (by kernel_rfl)) (noSpots (by kernel_rfl)) fun x rs h => by
    obtain ⟨a0, u⟩ := x
    cases u
    simp only [Cmd.val_ret] at h
    exact (ref5_Loads.eq a0).trans ((ref5_Loads.nice a0 (fun r0 => some ([⟨Ty.int IntKind.i64, r0⟩] : List DVal))).trans h)

/-! ### ref5_Stores -/
def ref5_Stores.env : Env := envNil
theorem ref5_Stores.envOk : EnvOk Try.prog ref5_Stores.env := envOk_nil _
def ref5_Stores.C : Cfg := { rows := [], keep := [], adopt := [] }
def ref5_Stores.tree {R : Type} (a0 : Int) (ret : Int → Option R) : Option R :=
  bif a0 == (25 : Int) then ret (1 : Int) else bif a0 == (26 : Int) then ret (2 : Int) else bif a0 == (27 : Int) then ret (4 : Int) else ret (0 : Int)
theorem ref5_Stores.eq (a0 : Int) : body Try.prog ref5_Stores.C ref5_Stores.env noL Try.f57 [⟨Ty.int IntKind.i64, a0⟩] = ref5_Stores.tree a0 (fun r0 => some ([⟨Ty.int IntKind.i64, r0⟩] : List DVal)) := by kernel_rfl
def ref5_Stores (a0 : Int) : Int :=
  bif a0 == (25 : Int) then (1 : Int) else bif a0 == (26 : Int) then (2 : Int) else bif a0 == (27 : Int) then (4 : Int) else (0 : Int)
theorem ref5_Stores.nice {R : Type} (a0 : Int) (ret : Int → Option R) : ref5_Stores.tree a0 ret = ret (ref5_Stores a0) := by
  unfold ref5_Stores.tree ref5_Stores
  simp only [Bool.apply_cond ret]
def ref5_Stores.ctr : Ctr := ctrOf [Ty.int IntKind.i64] fun x => .ret [⟨Ty.int IntKind.i64, ref5_Stores (x.1)⟩]
theorem ref5_Stores.known : Known Try.prog 57 ref5_Stores.ctr :=
  known_plain ref5_Stores.envOk mixed Try.func57 (by kernel_rfl) (by kernel_rfl) (noLoops (by kernel_rfl)) (noSpots (by kernel_rfl)) fun x rs h => by
    obtain ⟨a0, u⟩ := x
    cases u
    simp only [Cmd.val_ret] at h
    exact (ref5_Stores.eq a0).trans ((ref5_Stores.nice a0 (fun r0 => some ([⟨Ty.int IntKind.i64, r0⟩] : List DVal))).trans h)

/-! ### host_fields -/
def host_fields.env : Env := envCons 23 host_Loads.ctr <| envCons 24 host_Stores.ctr <| envNil
theorem host_fields.envOk : EnvOk Try.prog host_fields.env := envOk_cons host_Loads.known (envOk_cons host_Stores.known (envOk_nil _))
def host_fields.T2000003 : Tm := ⟨fill 0 53 [(0, Sl.data (Ty.int IntKind.i64))], []⟩
def host_fields.X2000003_normal : Tm := ⟨fill 0 53 [(0, Sl.data (Ty.int IntKind.i64)), (10, Sl.data Ty.bool)], []⟩
def host_fields.o2000003 {R : Type} (v0 : Int) (knormal : Int → Bool → Option R) : Option R :=
  bif v0 == (2 : Int) then knormal v0 true else knormal v0 (v0 == (17 : Int))
def host_fields.s2000003 {R : Type} (v0 : Int) (knormal : Int → Bool → Option R) : Option R :=
  knormal v0 (v0 == (2 : Int) || v0 == (17 : Int))
theorem host_fields.s2000003_eq {R : Type} (v0 : Int) (knormal : Int → Bool → Option R) : host_fields.s2000003 v0 knormal = host_fields.o2000003 v0 knormal := by
  unfold host_fields.s2000003 host_fields.o2000003
  (cases hc : v0 == (2 : Int) with | false => (first | rfl | simp_all) | true => (first | rfl | simp_all))
def host_fields.T2000005 : Tm := ⟨fill 0 53 [(0, Sl.data (Ty.int IntKind.i64))], []⟩
def host_fields.X2000005_normal : Tm := ⟨fill 0 53 [(0, Sl.data (Ty.int IntKind.i64)), (17, Sl.data Ty.bool)], []⟩
def host_fields.o2000005 {R : Type} (v0 : Int) (knormal : Int → Bool → Option R) : Option R :=
  bif decide (v0 ≥ (3 : Int)) then bif decide (v0 ≤ (16 : Int)) then knormal v0 true else bif decide (v0 ≥ (18 : Int)) then knormal v0 (decide (v0 ≤ (20 : Int))) else knormal v0 false else bif decide (v0 ≥ (18 : Int)) then knormal v0 (decide (v0 ≤ (20 : Int))) else knormal v0 false
def host_fields.s2000005 {R : Type} (v0 : Int) (knormal : Int → Bool → Option R) : Option R :=
  knormal v0 (bif decide (v0 ≥ (3 : Int)) then decide (v0 ≤ (16 : Int)) || decide (v0 ≥ (18 : Int)) && decide (v0 ≤ (20 : Int)) else decide (v0 ≥ (18 : Int)) && decide (v0 ≤ (20 : Int)))
theorem host_fields.s2000005_eq {R : Type} (v0 : Int) (knormal : Int → Bool → Option R) : host_fields.s2000005 v0 knormal = host_fields.o2000005 v0 knormal := by
  unfold host_fields.s2000005 host_fields.o2000005
  (cases hc : decide (v0 ≥ (3 : Int)) with | false => (cases hc : decide (v0 ≥ (18 : Int)) with | false => (first | rfl | simp_all) | true => (first | rfl | simp_all)) | true => (cases hc : decide (v0 ≤ (16 : Int)) with | false => (cases hc : decide (v0 ≥ (18 : Int)) with | false => (first | rfl | simp_all) | true => (first | rfl | simp_all)) | true => (first | rfl | simp_all)))
def host_fields.T2000013 : Tm := ⟨fill 0 53 [(0, Sl.data (Ty.int IntKind.i64))], []⟩
def host_fields.X2000013_normal : Tm := ⟨fill 0 53 [(0, Sl.data (Ty.int IntKind.i64)), (43, Sl.data Ty.bool)], []⟩
def host_fields.o2000013 {R : Type} (v0 : Int) (knormal : Int → Bool → Option R) : Option R :=
  bif v0 == (28 : Int) then knormal v0 true else knormal v0 (v0 == (31 : Int))
def host_fields.s2000013 {R : Type} (v0 : Int) (knormal : Int → Bool → Option R) : Option R :=
  knormal v0 (v0 == (28 : Int) || v0 == (31 : Int))
theorem host_fields.s2000013_eq {R : Type} (v0 : Int) (knormal : Int → Bool → Option R) : host_fields.s2000013 v0 knormal = host_fields.o2000013 v0 knormal := by
  unfold host_fields.s2000013 host_fields.o2000013
  (cases hc : v0 == (28 : Int) with | false => (first | rfl | simp_all) | true => (first | rfl | simp_all))
def host_fields.C : Cfg := { rows := [], keep := [(2000003, [0], []), (12000003, [0, 10], []), (2000005, [0], []), (12000005, [0, 17], []), (2000013, [0], []), (12000013, [0, 43], [])], adopt := [] }
def host_fields.sum2000003 : FrV host_fields.T2000003.fr × StV host_fields.T2000003.st → (Ex → S → Option (List DVal)) → Option (List DVal) := fun ((v0, ()), (())) K => host_fields.s2000003 v0 (fun e0 e1 => K .normal (pack host_fields.X2000003_normal ((e0, e1, ()), (()))))
def host_fields.sum2000005 : FrV host_fields.T2000005.fr × StV host_fields.T2000005.st → (Ex → S → Option (List DVal)) → Option (List DVal) := fun ((v0, ()), (())) K => host_fields.s2000005 v0 (fun e0 e1 => K .normal (pack host_fields.X2000005_normal ((e0, e1, ()), (()))))
def host_fields.sum2000013 : FrV host_fields.T2000013.fr × StV host_fields.T2000013.st → (Ex → S → Option (List DVal)) → Option (List DVal) := fun ((v0, ()), (())) K => host_fields.s2000013 v0 (fun e0 e1 => K .normal (pack host_fields.X2000013_normal ((e0, e1, ()), (()))))
def host_fields.L : Nat → Option Sum := fun i => if i = 2000003 then some (sumOf host_fields.T2000003 host_fields.sum2000003) else if i = 2000005 then some (sumOf host_fields.T2000005 host_fields.sum2000005) else if i = 2000013 then some (sumOf host_fields.T2000013 host_fields.sum2000013) else none
theorem host_fields.x2000003 : ∀ v (K : Ex → S → Option (List DVal)), exec1 Try.prog host_fields.C host_fields.env host_fields.L (spotOf Try.f59 2000003).2.1 (spotOf Try.f59 2000003).2.2 (pack host_fields.T2000003 v) (fun e s' => K e (trim host_fields.C (2000003 + 10000000) s')) = (fun (((v0, ()), (())) : FrV host_fields.T2000003.fr × StV host_fields.T2000003.st) => host_fields.o2000003 v0 (fun e0 e1 => K .normal (pack host_fields.X2000003_normal ((e0, e1, ()), (()))))) v :=
  fun ((v0, ()), (())) K => by kernel_rfl
theorem host_fields.sum2000003_ok : SpotOk Try.prog host_fields.C host_fields.env host_fields.L (spotOf Try.f59 2000003) := spotOk_of (T := host_fields.T2000003) (q := 2000003) (f := host_fields.sum2000003) (by kernel_rfl) (by kernel_rfl) fun ((v0, ()), (())) K r h => (host_fields.x2000003 _ K).trans ((host_fields.s2000003_eq v0 (fun e0 e1 => K .normal (pack host_fields.X2000003_normal ((e0, e1, ()), (()))))).symm.trans h)
theorem host_fields.x2000005 : ∀ v (K : Ex → S → Option (List DVal)), exec1 Try.prog host_fields.C host_fields.env host_fields.L (spotOf Try.f59 2000005).2.1 (spotOf Try.f59 2000005).2.2 (pack host_fields.T2000005 v) (fun e s' => K e (trim host_fields.C (2000005 + 10000000) s')) = (fun (((v0, ()), (())) : FrV host_fields.T2000005.fr × StV host_fields.T2000005.st) => host_fields.o2000005 v0 (fun e0 e1 => K .normal (pack host_fields.X2000005_normal ((e0, e1, ()), (()))))) v :=
  fun ((v0, ()), (())) K => by kernel_rfl
theorem host_fields.sum2000005_ok : SpotOk Try.prog host_fields.C host_fields.env host_fields.L (spotOf Try.f59 2000005) := spotOk_of (T := host_fields.T2000005) (q := 2000005) (f := host_fields.sum2000005) (by kernel_rfl) (by kernel_rfl) fun ((v0, ()), (())) K r h => (host_fields.x2000005 _ K).trans ((host_fields.s2000005_eq v0 (fun e0 e1 => K .normal (pack host_fields.X2000005_normal ((e0, e1, ()), (()))))).symm.trans h)
theorem host_fields.x2000013 : ∀ v (K : Ex → S → Option (List DVal)), exec1 Try.prog host_fields.C host_fields.env host_fields.L (spotOf Try.f59 2000013).2.1 (spotOf Try.f59 2000013).2.2 (pack host_fields.T2000013 v) (fun e s' => K e (trim host_fields.C (2000013 + 10000000) s')) = (fun (((v0, ()), (())) : FrV host_fields.T2000013.fr × StV host_fields.T2000013.st) => host_fields.o2000013 v0 (fun e0 e1 => K .normal (pack host_fields.X2000013_normal ((e0, e1, ()), (()))))) v :=
  fun ((v0, ()), (())) K => by kernel_rfl
theorem host_fields.sum2000013_ok : SpotOk Try.prog host_fields.C host_fields.env host_fields.L (spotOf Try.f59 2000013) := spotOk_of (T := host_fields.T2000013) (q := 2000013) (f := host_fields.sum2000013) (by kernel_rfl) (by kernel_rfl) fun ((v0, ()), (())) K r h => (host_fields.x2000013 _ K).trans ((host_fields.s2000013_eq v0 (fun e0 e1 => K .normal (pack host_fields.X2000013_normal ((e0, e1, ()), (()))))).symm.trans h)
def host_fields.tree {R : Type} (a0 : Int) (ret : Bool → Bool → Bool → Bool → Bool → Option R) : Option R :=
  bif a0 == (1 : Int) then ret true false false false true else bif a0 == (2 : Int) || a0 == (17 : Int) then ret true true false false false else bif bif decide (a0 ≥ (3 : Int)) then decide (a0 ≤ (16 : Int)) || decide (a0 ≥ (18 : Int)) && decide (a0 ≤ (20 : Int)) else decide (a0 ≥ (18 : Int)) && decide (a0 ≤ (20 : Int)) then ret true true true false false else bif a0 == (21 : Int) then ret true true true true false else bif decide (host_Loads a0 > (0 : Int)) then ret true true false false true else bif decide (host_Stores a0 > (0 : Int)) then ret false true true false true else bif a0 == (28 : Int) || a0 == (31 : Int) then ret false false false false true else bif a0 == (29 : Int) then ret false true false false true else ret false false false false false
theorem host_fields.eq (a0 : Int) : body Try.prog host_fields.C host_fields.env host_fields.L Try.f59 [⟨Ty.int IntKind.i64, a0⟩] = host_fields.tree a0 (fun r0 r1 r2 r3 r4 => some ([⟨Ty.bool, r0⟩, ⟨Ty.bool, r1⟩, ⟨Ty.bool, r2⟩, ⟨Ty.bool, r3⟩, ⟨Ty.bool, r4⟩] : List DVal)) := by kernel_rfl
def host_fields (a0 : Int) : Bool × Bool × Bool × Bool × Bool :=
  bif a0 == (1 : Int) then (true, false, false, false, true) else bif a0 == (2 : Int) || a0 == (17 : Int) then (true, true, false, false, false) else bif bif decide (a0 ≥ (3 : Int)) then decide (a0 ≤ (16 : Int)) || decide (a0 ≥ (18 : Int)) && decide (a0 ≤ (20 : Int)) else decide (a0 ≥ (18 : Int)) && decide (a0 ≤ (20 : Int)) then (true, true, true, false, false) else bif a0 == (21 : Int) then (true, true, true, true, false) else bif decide (host_Loads a0 > (0 : Int)) then (true, true, false, false, true) else bif decide (host_Stores a0 > (0 : Int)) then (false, true, true, false, true) else bif a0 == (28 : Int) || a0 == (31 : Int) then (false, false, false, false, true) else bif a0 == (29 : Int) then (false, true, false, false, true) else (false, false, false, false, false)
theorem host_fields.nice {R : Type} (a0 : Int) (ret : Bool → Bool → Bool → Bool → Bool → Option R) : host_fields.tree a0 ret = ret (host_fields a0).1 (host_fields a0).2.1 (host_fields a0).2.2.1 (host_fields a0).2.2.2.1 (host_fields a0).2.2.2.2 := by
  obtain ⟨G, hG⟩ : ∃ G : (Bool × Bool × Bool × Bool × Bool) → Option R, ∀ x, G x = ret x.1 x.2.1 x.2.2.1 x.2.2.2.1 x.2.2.2.2 := ⟨_, fun _ => rfl⟩
  refine Eq.trans ?_ (hG (host_fields a0))
  unfold host_fields.tree host_fields
  simp only [Bool.apply_cond G, hG]
def host_fields.ctr : Ctr := ctrOf [Ty.int IntKind.i64] fun x => .ret [⟨Ty.bool, (host_fields (x.1)).1⟩, ⟨Ty.bool, (host_fields (x.1)).2.1⟩, ⟨Ty.bool, (host_fields (x.1)).2.2.1⟩, ⟨Ty.bool, (host_fields (x.1)).2.2.2.1⟩, ⟨Ty.bool, (host_fields (x.1)).2.2.2.2⟩]
theorem host_fields.known : Known Try.prog 59 host_fields.ctr :=
  known_plain host_fields.envOk mixed Try.func59 (by kernel_rfl) (by kernel_rfl) (noLoops (by kernel_rfl)) (bySpot (ids := [2000003, 2000005, 2000013]) (by kernel_rfl) (by intro q hq; simp only [List.mem_cons, List.not_mem_nil, or_false] at hq; rcases hq with rfl | rfl | rfl <;> first | exact host_fields.sum2000003_ok | exact host_fields.sum2000005_ok | exact host_fields.sum2000013_ok)) fun x rs h => by
    obtain ⟨a0, u⟩ := x
    cases u
    simp only [Cmd.val_ret] at h
    exact (host_fields.eq a0).trans ((host_fields.nice a0 (fun r0 r1 r2 r3 r4 => some ([⟨Ty.bool, r0⟩, ⟨Ty.bool, r1⟩, ⟨Ty.bool, r2⟩, ⟨Ty.bool, r3⟩, ⟨Ty.bool, r4⟩] : List DVal))).trans h)

/-! ### host_Cost -/
def host_Cost.env : Env := envCons 23 host_Loads.ctr <| envCons 24 host_Stores.ctr <| envNil
theorem host_Cost.envOk : EnvOk Try.prog host_Cost.env := envOk_cons host_Loads.known (envOk_cons host_Stores.known (envOk_nil _))
def host_Cost.T2000001 : Tm := ⟨fill 0 52 [(0, Sl.data (Ty.int IntKind.i64))], []⟩
def host_Cost.X2000001_normal : Tm := ⟨fill 0 52 [(0, Sl.data (Ty.int IntKind.i64)), (3, Sl.data Ty.bool)], []⟩
def host_Cost.o2000001 {R : Type} (v0 : Int) (knormal : Int → Bool → Option R) : Option R :=
  bif decide (v0 < (1 : Int)) then knormal v0 true else knormal v0 (decide (v0 ≥ (32 : Int)))
def host_Cost.s2000001 {R : Type} (v0 : Int) (knormal : Int → Bool → Option R) : Option R :=
  knormal v0 (decide (v0 < (1 : Int)) || decide (v0 ≥ (32 : Int)))
theorem host_Cost.s2000001_eq {R : Type} (v0 : Int) (knormal : Int → Bool → Option R) : host_Cost.s2000001 v0 knormal = host_Cost.o2000001 v0 knormal := by
  unfold host_Cost.s2000001 host_Cost.o2000001
  (cases hc : decide (v0 < (1 : Int)) with | false => (first | rfl | simp_all) | true => (first | rfl | simp_all))
def host_Cost.T2000003 : Tm := ⟨fill 0 52 [(0, Sl.data (Ty.int IntKind.i64))], []⟩
def host_Cost.X2000003_normal : Tm := ⟨fill 0 52 [(0, Sl.data (Ty.int IntKind.i64)), (10, Sl.data Ty.bool)], []⟩
def host_Cost.o2000003 {R : Type} (v0 : Int) (knormal : Int → Bool → Option R) : Option R :=
  bif v0 == (12 : Int) then knormal v0 true else bif v0 == (13 : Int) then knormal v0 true else knormal v0 (v0 == (14 : Int))
def host_Cost.s2000003 {R : Type} (v0 : Int) (knormal : Int → Bool → Option R) : Option R :=
  knormal v0 (v0 == (12 : Int) || (v0 == (13 : Int) || v0 == (14 : Int)))
theorem host_Cost.s2000003_eq {R : Type} (v0 : Int) (knormal : Int → Bool → Option R) : host_Cost.s2000003 v0 knormal = host_Cost.o2000003 v0 knormal := by
  unfold host_Cost.s2000003 host_Cost.o2000003
  (cases hc : v0 == (12 : Int) with | false => (cases hc : v0 == (13 : Int) with | false => (first | rfl | simp_all) | true => (first | rfl | simp_all)) | true => (first | rfl | simp_all))
def host_Cost.T2000005 : Tm := ⟨fill 0 52 [(0, Sl.data (Ty.int IntKind.i64))], []⟩
def host_Cost.X2000005_normal : Tm := ⟨fill 0 52 [(0, Sl.data (Ty.int IntKind.i64)), (21, Sl.data Ty.bool)], []⟩
def host_Cost.o2000005 {R : Type} (v0 : Int) (knormal : Int → Bool → Option R) : Option R :=
  bif v0 == (15 : Int) then knormal v0 true else knormal v0 (v0 == (16 : Int))
def host_Cost.s2000005 {R : Type} (v0 : Int) (knormal : Int → Bool → Option R) : Option R :=
  knormal v0 (v0 == (15 : Int) || v0 == (16 : Int))
theorem host_Cost.s2000005_eq {R : Type} (v0 : Int) (knormal : Int → Bool → Option R) : host_Cost.s2000005 v0 knormal = host_Cost.o2000005 v0 knormal := by
  unfold host_Cost.s2000005 host_Cost.o2000005
  (cases hc : v0 == (15 : Int) with | false => (first | rfl | simp_all) | true => (first | rfl | simp_all))
def host_Cost.T2000007 : Tm := ⟨fill 0 52 [(0, Sl.data (Ty.int IntKind.i64))], []⟩
def host_Cost.X2000007_normal : Tm := ⟨fill 0 52 [(0, Sl.data (Ty.int IntKind.i64)), (28, Sl.data Ty.bool)], []⟩
def host_Cost.o2000007 {R : Type} (v0 : Int) (knormal : Int → Bool → Option R) : Option R :=
  bif decide (host_Loads v0 > (0 : Int)) then knormal v0 true else bif decide (host_Stores v0 > (0 : Int)) then knormal v0 true else bif v0 == (28 : Int) then knormal v0 true else knormal v0 (v0 == (29 : Int))
def host_Cost.s2000007 {R : Type} (v0 : Int) (knormal : Int → Bool → Option R) : Option R :=
  knormal v0 (decide (host_Loads v0 > (0 : Int)) || (decide (host_Stores v0 > (0 : Int)) || (v0 == (28 : Int) || v0 == (29 : Int))))
theorem host_Cost.s2000007_eq {R : Type} (v0 : Int) (knormal : Int → Bool → Option R) : host_Cost.s2000007 v0 knormal = host_Cost.o2000007 v0 knormal := by
  unfold host_Cost.s2000007 host_Cost.o2000007
  (cases hc : decide (host_Loads v0 > (0 : Int)) with | false => (cases hc : decide (host_Stores v0 > (0 : Int)) with | false => (cases hc : v0 == (28 : Int) with | false => (first | rfl | simp_all) | true => (first | rfl | simp_all)) | true => (first | rfl | simp_all)) | true => (first | rfl | simp_all))
def host_Cost.T2000009 : Tm := ⟨fill 0 52 [(0, Sl.data (Ty.int IntKind.i64))], []⟩
def host_Cost.X2000009_normal : Tm := ⟨fill 0 52 [(45, Sl.data Ty.bool)], []⟩
def host_Cost.o2000009 {R : Type} (v0 : Int) (knormal : Bool → Option R) : Option R :=
  bif v0 == (30 : Int) then knormal true else knormal (v0 == (31 : Int))
def host_Cost.s2000009 {R : Type} (v0 : Int) (knormal : Bool → Option R) : Option R :=
  knormal (v0 == (30 : Int) || v0 == (31 : Int))
theorem host_Cost.s2000009_eq {R : Type} (v0 : Int) (knormal : Bool → Option R) : host_Cost.s2000009 v0 knormal = host_Cost.o2000009 v0 knormal := by
  unfold host_Cost.s2000009 host_Cost.o2000009
  (cases hc : v0 == (30 : Int) with | false => (first | rfl | simp_all) | true => (first | rfl | simp_all))
def host_Cost.C : Cfg := { rows := [], keep := [(2000001, [0], []), (12000001, [0, 3], []), (2000003, [0], []), (12000003, [0, 10], []), (2000005, [0], []), (12000005, [0, 21], []), (2000007, [0], []), (12000007, [0, 28], []), (2000009, [0], []), (12000009, [45], [])], adopt := [] }
def host_Cost.sum2000001 : FrV host_Cost.T2000001.fr × StV host_Cost.T2000001.st → (Ex → S → Option (List DVal)) → Option (List DVal) := fun ((v0, ()), (())) K => host_Cost.s2000001 v0 (fun e0 e1 => K .normal (pack host_Cost.X2000001_normal ((e0, e1, ()), (()))))
def host_Cost.sum2000003 : FrV host_Cost.T2000003.fr × StV host_Cost.T2000003.st → (Ex → S → Option (List DVal)) → Option (List DVal) := fun ((v0, ()), (())) K => host_Cost.s2000003 v0 (fun e0 e1 => K .normal (pack host_Cost.X2000003_normal ((e0, e1, ()), (()))))
def host_Cost.sum2000005 : FrV host_Cost.T2000005.fr × StV host_Cost.T2000005.st → (Ex → S → Option (List DVal)) → Option (List DVal) := fun ((v0, ()), (())) K => host_Cost.s2000005 v0 (fun e0 e1 => K .normal (pack host_Cost.X2000005_normal ((e0, e1, ()), (()))))
def host_Cost.sum2000007 : FrV host_Cost.T2000007.fr × StV host_Cost.T2000007.st → (Ex → S → Option (List DVal)) → Option (List DVal) := fun ((v0, ()), (())) K => host_Cost.s2000007 v0 (fun e0 e1 => K .normal (pack host_Cost.X2000007_normal ((e0, e1, ()), (()))))
def host_Cost.sum2000009 : FrV host_Cost.T2000009.fr × StV host_Cost.T2000009.st → (Ex → S → Option (List DVal)) → Option (List DVal) := fun ((v0, ()), (())) K => host_Cost.s2000009 v0 (fun e0 => K .normal (pack host_Cost.X2000009_normal ((e0, ()), (()))))
def host_Cost.L : Nat → Option Sum := fun i => if i = 2000001 then some (sumOf host_Cost.T2000001 host_Cost.sum2000001) else if i = 2000003 then some (sumOf host_Cost.T2000003 host_Cost.sum2000003) else if i = 2000005 then some (sumOf host_Cost.T2000005 host_Cost.sum2000005) else if i = 2000007 then some (sumOf host_Cost.T2000007 host_Cost.sum2000007) else if i = 2000009 then some (sumOf host_Cost.T2000009 host_Cost.sum2000009) else none
theorem host_Cost.x2000001 : ∀ v (K : Ex → S → Option (List DVal)), exec1 Try.prog host_Cost.C host_Cost.env host_Cost.L (spotOf Try.f22 2000001).2.1 (spotOf Try.f22 2000001).2.2 (pack host_Cost.T2000001 v) (fun e s' => K e (trim host_Cost.C (2000001 + 10000000) s')) = (fun (((v0, ()), (())) : FrV host_Cost.T2000001.fr × StV host_Cost.T2000001.st) => host_Cost.o2000001 v0 (fun e0 e1 => K .normal (pack host_Cost.X2000001_normal ((e0, e1, ()), (()))))) v :=
  fun ((v0, ()), (())) K => by kernel_rfl
theorem host_Cost.sum2000001_ok : SpotOk Try.prog host_Cost.C host_Cost.env host_Cost.L (spotOf Try.f22 2000001) := spotOk_of (T := host_Cost.T2000001) (q := 2000001) (f := host_Cost.sum2000001) (by kernel_rfl) (by kernel_rfl) fun ((v0, ()), (())) K r h => (host_Cost.x2000001 _ K).trans ((host_Cost.s2000001_eq v0 (fun e0 e1 => K .normal (pack host_Cost.X2000001_normal ((e0, e1, ()), (()))))).symm.trans h)
theorem host_Cost.x2000003 : ∀ v (K : Ex → S → Option (List DVal)), exec1 Try.prog host_Cost.C host_Cost.env host_Cost.L (spotOf Try.f22 2000003).2.1 (spotOf Try.f22 2000003).2.2 (pack host_Cost.T2000003 v) (fun e s' => K e (trim host_Cost.C (2000003 + 10000000) s')) = (fun (((v0, ()), (())) : FrV host_Cost.T2000003.fr × StV host_Cost.T2000003.st) => host_Cost.o2000003 v0 (fun e0 e1 => K .normal (pack host_Cost.X2000003_normal ((e0, e1, ()), (()))))) v :=
  fun ((v0, ()), (())) K => by kernel_rfl
theorem host_Cost.sum2000003_ok : SpotOk Try.prog host_Cost.C host_Cost.env host_Cost.L (spotOf Try.f22 2000003) := spotOk_of (T := host_Cost.T2000003) (q := 2000003) (f := host_Cost.sum2000003) (by kernel_rfl) (by kernel_rfl) fun ((v0, ()), (())) K r h => (host_Cost.x2000003 _ K).trans ((host_Cost.s2000003_eq v0 (fun e0 e1 => K .normal (pack host_Cost.X2000003_normal ((e0, e1, ()), (()))))).symm.trans h)
theorem host_Cost.x2000005 : ∀ v (K : Ex → S → Option (List DVal)), exec1 Try.prog host_Cost.C host_Cost.env host_Cost.L (spotOf Try.f22 2000005).2.1 (spotOf Try.f22 2000005).2.2 (pack host_Cost.T2000005 v) (fun e s' => K e (trim host_Cost.C (2000005 + 10000000) s')) = (fun (((v0, ()), (())) : FrV host_Cost.T2000005.fr × StV host_Cost.T2000005.st) => host_Cost.o2000005 v0 (fun e0 e1 => K .normal (pack host_Cost.X2000005_normal ((e0, e1, ()), (()))))) v :=
  fun ((v0, ()), (())) K => by kernel_rfl
theorem host_Cost.sum2000005_ok : SpotOk Try.prog host_Cost.C host_Cost.env host_Cost.L (spotOf Try.f22 2000005) := spotOk_of (T := host_Cost.T2000005) (q := 2000005) (f := host_Cost.sum2000005) (by kernel_rfl) (by kernel_rfl) fun ((v0, ()), (())) K r h => (host_Cost.x2000005 _ K).trans ((host_Cost.s2000005_eq v0 (fun e0 e1 => K .normal (pack host_Cost.X2000005_normal ((e0, e1, ()), (()))))).symm.trans h)
theorem host_Cost.x2000007 : ∀ v (K : Ex → S → Option (List DVal)), exec1 Try.prog host_Cost.C host_Cost.env host_Cost.L (spotOf Try.f22 2000007).2.1 (spotOf Try.f22 2000007).2.2 (pack host_Cost.T2000007 v) (fun e s' => K e (trim host_Cost.C (2000007 + 10000000) s')) = (fun (((v0, ()), (())) : FrV host_Cost.T2000007.fr × StV host_Cost.T2000007.st) => host_Cost.o2000007 v0 (fun e0 e1 => K .normal (pack host_Cost.X2000007_normal ((e0, e1, ()), (()))))) v :=
  fun ((v0, ()), (())) K => by kernel_rfl
theorem host_Cost.sum2000007_ok : SpotOk Try.prog host_Cost.C host_Cost.env host_Cost.L (spotOf Try.f22 2000007) := spotOk_of (T := host_Cost.T2000007) (q := 2000007) (f := host_Cost.sum2000007) (by kernel_rfl) (by kernel_rfl) fun ((v0, ()), (())) K r h => (host_Cost.x2000007 _ K).trans ((host_Cost.s2000007_eq v0 (fun e0 e1 => K .normal (pack host_Cost.X2000007_normal ((e0, e1, ()), (()))))).symm.trans h)
theorem host_Cost.x2000009 : ∀ v (K : Ex → S → Option (List DVal)), exec1 Try.prog host_Cost.C host_Cost.env host_Cost.L (spotOf Try.f22 2000009).2.1 (spotOf Try.f22 2000009).2.2 (pack host_Cost.T2000009 v) (fun e s' => K e (trim host_Cost.C (2000009 + 10000000) s')) = (fun (((v0, ()), (())) : FrV host_Cost.T2000009.fr × StV host_Cost.T2000009.st) => host_Cost.o2000009 v0 (fun e0 => K .normal (pack host_Cost.X2000009_normal ((e0, ()), (()))))) v :=
  fun ((v0, ()), (())) K => by kernel_rfl
theorem host_Cost.sum2000009_ok : SpotOk Try.prog host_Cost.C host_Cost.env host_Cost.L (spotOf Try.f22 2000009) := spotOk_of (T := host_Cost.T2000009) (q := 2000009) (f := host_Cost.sum2000009) (by kernel_rfl) (by kernel_rfl) fun ((v0, ()), (())) K r h => (host_Cost.x2000009 _ K).trans ((host_Cost.s2000009_eq v0 (fun e0 => K .normal (pack host_Cost.X2000009_normal ((e0, ()), (()))))).symm.trans h)
def host_Cost.tree {R : Type} (a0 : Int) (ret : Int → Option R) : Option R :=
  bif decide (a0 < (1 : Int)) || decide (a0 ≥ (32 : Int)) then ret (0 : Int) else bif a0 == (12 : Int) || (a0 == (13 : Int) || a0 == (14 : Int)) then ret (3 : Int) else bif a0 == (15 : Int) || a0 == (16 : Int) then ret (12 : Int) else bif decide (host_Loads a0 > (0 : Int)) || (decide (host_Stores a0 > (0 : Int)) || (a0 == (28 : Int) || a0 == (29 : Int))) then ret (2 : Int) else bif a0 == (30 : Int) || a0 == (31 : Int) then ret (4 : Int) else ret (1 : Int)
theorem host_Cost.eq (a0 : Int) : body Try.prog host_Cost.C host_Cost.env host_Cost.L Try.f22 [⟨Ty.int IntKind.i64, a0⟩] = host_Cost.tree a0 (fun r0 => some ([⟨Ty.int IntKind.i64, r0⟩] : List DVal)) := by kernel_rfl
def host_Cost (a0 : Int) : Int :=
  bif decide (a0 < (1 : Int)) || decide (a0 ≥ (32 : Int)) then (0 : Int) else bif a0 == (12 : Int) || (a0 == (13 : Int) || a0 == (14 : Int)) then (3 : Int) else bif a0 == (15 : Int) || a0 == (16 : Int) then (12 : Int) else bif decide (host_Loads a0 > (0 : Int)) || (decide (host_Stores a0 > (0 : Int)) || (a0 == (28 : Int) || a0 == (29 : Int))) then (2 : Int) else bif a0 == (30 : Int) || a0 == (31 : Int) then (4 : Int) else (1 : Int)
theorem host_Cost.nice {R : Type} (a0 : Int) (ret : Int → Option R) : host_Cost.tree a0 ret = ret (host_Cost a0) := by
  unfold host_Cost.tree host_Cost
  simp only [Bool.apply_cond ret]
def host_Cost.ctr : Ctr := ctrOf [Ty.int IntKind.i64] fun x => .ret [⟨Ty.int IntKind.i64, host_Cost (x.1)⟩]
theorem host_Cost.known : Known Try.prog 22 host_Cost.ctr :=
  known_plain host_Cost.envOk mixed Try.func22 (by kernel_rfl) (by kernel_rfl) (noLoops (by kernel_rfl)) (bySpot (ids := [2000001, 2000003, 2000005, 2000007, 2000009]) (by kernel_rfl) (by intro q hq; simp only [List.mem_cons, List.not_mem_nil, or_false] at hq; rcases hq with rfl | rfl | rfl | rfl | rfl <;> first | exact host_Cost.sum2000001_ok | exact host_Cost.sum2000003_ok | exact host_Cost.sum2000005_ok | exact host_Cost.sum2000007_ok | exact host_Cost.sum2000009_ok)) fun x rs h => by
    obtain ⟨a0, u⟩ := x
    cases u
    simp only [Cmd.val_ret] at h
    exact (host_Cost.eq a0).trans ((host_Cost.nice a0 (fun r0 => some ([⟨Ty.int IntKind.i64, r0⟩] : List DVal))).trans h)

/-! ### ref5_Cost -/
def ref5_Cost.env : Env := envCons 56 ref5_Loads.ctr <| envCons 57 ref5_Stores.ctr <| envNil
theorem ref5_Cost.envOk : EnvOk Try.prog ref5_Cost.env := envOk_cons ref5_Loads.known (envOk_cons ref5_Stores.known (envOk_nil _))
def ref5_Cost.T2000001 : Tm := ⟨fill 0 38 [(0, Sl.data (Ty.int IntKind.i64))], []⟩
def ref5_Cost.X2000001_normal : Tm := ⟨fill 0 38 [(0, Sl.data (Ty.int IntKind.i64)), (3, Sl.data Ty.bool)], []⟩
def ref5_Cost.o2000001 {R : Type} (v0 : Int) (knormal : Int → Bool → Option R) : Option R :=
  bif decide (v0 < (1 : Int)) then knormal v0 true else knormal v0 (decide (v0 ≥ (32 : Int)))
def ref5_Cost.s2000001 {R : Type} (v0 : Int) (knormal : Int → Bool → Option R) : Option R :=
  knormal v0 (decide (v0 < (1 : Int)) || decide (v0 ≥ (32 : Int)))
theorem ref5_Cost.s2000001_eq {R : Type} (v0 : Int) (knormal : Int → Bool → Option R) : ref5_Cost.s2000001 v0 knormal = ref5_Cost.o2000001 v0 knormal := by
  unfold ref5_Cost.s2000001 ref5_Cost.o2000001
  (cases hc : decide (v0 < (1 : Int)) with | false => (first | rfl | simp_all) | true => (first | rfl | simp_all))
def ref5_Cost.T3000005 : Tm := ⟨fill 0 38 [(0, Sl.data (Ty.int IntKind.i64)), (10, Sl.data Ty.bool)], []⟩
def ref5_Cost.X3000005_normal : Tm := ⟨fill 0 38 [(0, Sl.data (Ty.int IntKind.i64)), (10, Sl.data Ty.bool)], []⟩
def ref5_Cost.o3000005 {R : Type} (v0 : Int) (v1 : Bool) (knormal : Int → Bool → Option R) : Option R :=
  bif v1 then knormal v0 v1 else knormal v0 (v0 == (14 : Int))
def ref5_Cost.s3000005 {R : Type} (v0 : Int) (v1 : Bool) (knormal : Int → Bool → Option R) : Option R :=
  knormal v0 (bif v1 then v1 else v0 == (14 : Int))
theorem ref5_Cost.s3000005_eq {R : Type} (v0 : Int) (v1 : Bool) (knormal : Int → Bool → Option R) : ref5_Cost.s3000005 v0 v1 knormal = ref5_Cost.o3000005 v0 v1 knormal := by
  unfold ref5_Cost.s3000005 ref5_Cost.o3000005
  (cases hc : v1 with | false => (first | rfl | simp_all) | true => (first | rfl | simp_all))
def ref5_Cost.T3000004 : Tm := ⟨fill 0 38 [(0, Sl.data (Ty.int IntKind.i64)), (10, Sl.data Ty.bool)], []⟩
def ref5_Cost.X3000004_normal : Tm := ⟨fill 0 38 [(0, Sl.data (Ty.int IntKind.i64)), (10, Sl.data Ty.bool)], []⟩
def ref5_Cost.o3000004 {R : Type} (v0 : Int) (v1 : Bool) (knormal : Int → Bool → Option R) : Option R :=
  bif v1 then knormal v0 v1 else knormal v0 (bif v0 == (13 : Int) then v0 == (13 : Int) else v0 == (14 : Int))
def ref5_Cost.s3000004 {R : Type} (v0 : Int) (v1 : Bool) (knormal : Int → Bool → Option R) : Option R :=
  knormal v0 (bif v1 then v1 else bif v0 == (13 : Int) then v0 == (13 : Int) else v0 == (14 : Int))
theorem ref5_Cost.s3000004_eq {R : Type} (v0 : Int) (v1 : Bool) (knormal : Int → Bool → Option R) : ref5_Cost.s3000004 v0 v1 knormal = ref5_Cost.o3000004 v0 v1 knormal := by
  unfold ref5_Cost.s3000004 ref5_Cost.o3000004
  (cases hc : v1 with | false => (first | rfl | simp_all) | true => (first | rfl | simp_all))
def ref5_Cost.T3000008 : Tm := ⟨fill 0 38 [(0, Sl.data (Ty.int IntKind.i64)), (17, Sl.data Ty.bool)], []⟩
def ref5_Cost.X3000008_normal : Tm := ⟨fill 0 38 [(0, Sl.data (Ty.int IntKind.i64)), (17, Sl.data Ty.bool)], []⟩
def ref5_Cost.o3000008 {R : Type} (v0 : Int) (v1 : Bool) (knormal : Int → Bool → Option R) : Option R :=
  bif v1 then knormal v0 v1 else knormal v0 (v0 == (16 : Int))
def ref5_Cost.s3000008 {R : Type} (v0 : Int) (v1 : Bool) (knormal : Int → Bool → Option R) : Option R :=
  knormal v0 (bif v1 then v1 else v0 == (16 : Int))
theorem ref5_Cost.s3000008_eq {R : Type} (v0 : Int) (v1 : Bool) (knormal : Int → Bool → Option R) : ref5_Cost.s3000008 v0 v1 knormal = ref5_Cost.o3000008 v0 v1 knormal := by
  unfold ref5_Cost.s3000008 ref5_Cost.o3000008
  (cases hc : v1 with | false => (first | rfl | simp_all) | true => (first | rfl | simp_all))
def ref5_Cost.T3000013 : Tm := ⟨fill 0 38 [(0, Sl.data (Ty.int IntKind.i64)), (22, Sl.data Ty.bool)], []⟩
def ref5_Cost.X3000013_normal : Tm := ⟨fill 0 38 [(0, Sl.data (Ty.int IntKind.i64)), (22, Sl.data Ty.bool)], []⟩
def ref5_Cost.o3000013 {R : Type} (v0 : Int) (v1 : Bool) (knormal : Int → Bool → Option R) : Option R :=
  bif v1 then knormal v0 v1 else knormal v0 (v0 == (29 : Int))
def ref5_Cost.s3000013 {R : Type} (v0 : Int) (v1 : Bool) (knormal : Int → Bool → Option R) : Option R :=
  knormal v0 (bif v1 then v1 else v0 == (29 : Int))
theorem ref5_Cost.s3000013_eq {R : Type} (v0 : Int) (v1 : Bool) (knormal : Int → Bool → Option R) : ref5_Cost.s3000013 v0 v1 knormal = ref5_Cost.o3000013 v0 v1 knormal := by
  unfold ref5_Cost.s3000013 ref5_Cost.o3000013
  (cases hc : v1 with | false => (first | rfl | simp_all) | true => (first | rfl | simp_all))
def ref5_Cost.T3000012 : Tm := ⟨fill 0 38 [(0, Sl.data (Ty.int IntKind.i64)), (22, Sl.data Ty.bool)], []⟩
def ref5_Cost.X3000012_normal : Tm := ⟨fill 0 38 [(0, Sl.data (Ty.int IntKind.i64)), (22, Sl.data Ty.bool)], []⟩
def ref5_Cost.o3000012 {R : Type} (v0 : Int) (v1 : Bool) (knormal : Int → Bool → Option R) : Option R :=
  bif v1 then knormal v0 v1 else knormal v0 (bif v0 == (28 : Int) then v0 == (28 : Int) else v0 == (29 : Int))
def ref5_Cost.s3000012 {R : Type} (v0 : Int) (v1 : Bool) (knormal : Int → Bool → Option R) : Option R :=
  knormal v0 (bif v1 then v1 else bif v0 == (28 : Int) then v0 == (28 : Int) else v0 == (29 : Int))
theorem ref5_Cost.s3000012_eq {R : Type} (v0 : Int) (v1 : Bool) (knormal : Int → Bool → Option R) : ref5_Cost.s3000012 v0 v1 knormal = ref5_Cost.o3000012 v0 v1 knormal := by
  unfold ref5_Cost.s3000012 ref5_Cost.o3000012
  (cases hc : v1 with | false => (first | rfl | simp_all) | true => (first | rfl | simp_all))
def ref5_Cost.T3000011 : Tm := ⟨fill 0 38 [(0, Sl.data (Ty.int IntKind.i64)), (22, Sl.data Ty.bool)], []⟩
def ref5_Cost.X3000011_normal : Tm := ⟨fill 0 38 [(0, Sl.data (Ty.int IntKind.i64)), (22, Sl.data Ty.bool)], []⟩
def ref5_Cost.o3000011 {R : Type} (v0 : Int) (v1 : Bool) (knormal : Int → Bool → Option R) : Option R :=
  bif v1 then knormal v0 v1 else knormal v0 (bif decide (ref5_Stores v0 > (0 : Int)) then decide (ref5_Stores v0 > (0 : Int)) else bif v0 == (28 : Int) then v0 == (28 : Int) else v0 == (29 : Int))
def ref5_Cost.s3000011 {R : Type} (v0 : Int) (v1 : Bool) (knormal : Int → Bool → Option R) : Option R :=
  knormal v0 (bif v1 then v1 else bif decide (ref5_Stores v0 > (0 : Int)) then decide (ref5_Stores v0 > (0 : Int)) else bif v0 == (28 : Int) then v0 == (28 : Int) else v0 == (29 : Int))
theorem ref5_Cost.s3000011_eq {R : Type} (v0 : Int) (v1 : Bool) (knormal : Int → Bool → Option R) : ref5_Cost.s3000011 v0 v1 knormal = ref5_Cost.o3000011 v0 v1 knormal := by
  unfold ref5_Cost.s3000011 ref5_Cost.o3000011
  (cases hc : v1 with | false => (first | rfl | simp_all) | true => (first | rfl | simp_all))
def ref5_Cost.T3000016 : Tm := ⟨fill 0 38 [(0, Sl.data (Ty.int IntKind.i64)), (33, Sl.data Ty.bool)], []⟩
def ref5_Cost.X3000016_normal : Tm := ⟨fill 0 38 [(33, Sl.data Ty.bool)], []⟩
def ref5_Cost.o3000016 {R : Type} (v0 : Int) (v1 : Bool) (knormal : Bool → Option R) : Option R :=
  bif v1 then knormal v1 else knormal (v0 == (31 : Int))
def ref5_Cost.s3000016 {R : Type} (v0 : Int) (v1 : Bool) (knormal : Bool → Option R) : Option R :=
  knormal (bif v1 then v1 else v0 == (31 : Int))
theorem ref5_Cost.s3000016_eq {R : Type} (v0 : Int) (v1 : Bool) (knormal : Bool → Option R) : ref5_Cost.s3000016 v0 v1 knormal = ref5_Cost.o3000016 v0 v1 knormal := by
  unfold ref5_Cost.s3000016 ref5_Cost.o3000016
  (cases hc : v1 with | false => (first | rfl | simp_all) | true => (first | rfl | simp_all))
def ref5_Cost.C : Cfg := { rows := [], keep := [(2000001, [0], []), (12000001, [0, 3], []), (3000005, [0, 10], []), (13000005, [0, 10], []), (3000004, [0, 10], []), (13000004, [0, 10], []), (3000008, [0, 17], []), (13000008, [0, 17], []), (3000013, [0, 22], []), (13000013, [0, 22], []), (3000012, [0, 22], []), (13000012, [0, 22], []), (3000011, [0, 22], []), (13000011, [0, 22], []), (3000016, [0, 33], []), (13000016, [33], [])], adopt := [] }
def ref5_Cost.sum2000001 : FrV ref5_Cost.T2000001.fr × StV ref5_Cost.T2000001.st → (Ex → S → Option (List DVal)) → Option (List DVal) := fun ((v0, ()), (())) K => ref5_Cost.s2000001 v0 (fun e0 e1 => K .normal (pack ref5_Cost.X2000001_normal ((e0, e1, ()), (()))))
def ref5_Cost.sum3000005 : FrV ref5_Cost.T3000005.fr × StV ref5_Cost.T3000005.st → (Ex → S → Option (List DVal)) → Option (List DVal) := fun ((v0, v1, ()), (())) K => ref5_Cost.s3000005 v0 v1 (fun e0 e1 => K .normal (pack ref5_Cost.X3000005_normal ((e0, e1, ()), (()))))
def ref5_Cost.sum3000004 : FrV ref5_Cost.T3000004.fr × StV ref5_Cost.T3000004.st → (Ex → S → Option (List DVal)) → Option (List DVal) := fun ((v0, v1, ()), (())) K => ref5_Cost.s3000004 v0 v1 (fun e0 e1 => K .normal (pack ref5_Cost.X3000004_normal ((e0, e1, ()), (()))))
def ref5_Cost.sum3000008 : FrV ref5_Cost.T3000008.fr × StV ref5_Cost.T3000008.st → (Ex → S → Option (List DVal)) → Option (List DVal) := fun ((v0, v1, ()), (())) K => ref5_Cost.s3000008 v0 v1 (fun e0 e1 => K .normal (pack ref5_Cost.X3000008_normal ((e0, e1, ()), (()))))
def ref5_Cost.sum3000013 : FrV ref5_Cost.T3000013.fr × StV ref5_Cost.T3000013.st → (Ex → S → Option (List DVal)) → Option (List DVal) := fun ((v0, v1, ()), (())) K => ref5_Cost.s3000013 v0 v1 (fun e0 e1 => K .normal (pack ref5_Cost.X3000013_normal ((e0, e1, ()), (()))))
def ref5_Cost.sum3000012 : FrV ref5_Cost.T3000012.fr × StV ref5_Cost.T3000012.st → (Ex → S → Option (List DVal)) → Option (List DVal) := fun ((v0, v1, ()), (())) K => ref5_Cost.s3000012 v0 v1 (fun e0 e1 => K .normal (pack ref5_Cost.X3000012_normal ((e0, e1, ()), (()))))
def ref5_Cost.sum3000011 : FrV ref5_Cost.T3000011.fr × StV ref5_Cost.T3000011.st → (Ex → S → Option (List DVal)) → Option (List DVal) := fun ((v0, v1, ()), (())) K => ref5_Cost.s3000011 v0 v1 (fun e0 e1 => K .normal (pack ref5_Cost.X3000011_normal ((e0, e1, ()), (()))))
def ref5_Cost.sum3000016 : FrV ref5_Cost.T3000016.fr × StV ref5_Cost.T3000016.st → (Ex → S → Option (List DVal)) → Option (List DVal) := fun ((v0, v1, ()), (())) K => ref5_Cost.s3000016 v0 v1 (fun e0 => K .normal (pack ref5_Cost.X3000016_normal ((e0, ()), (()))))
def ref5_Cost.L : Nat → Option Sum := fun i => if i = 2000001 then some (sumOf ref5_Cost.T2000001 ref5_Cost.sum2000001) else if i = 3000005 then some (sumOf ref5_Cost.T3000005 ref5_Cost.sum3000005) else if i = 3000004 then some (sumOf ref5_Cost.T3000004 ref5_Cost.sum3000004) else if i = 3000008 then some (sumOf ref5_Cost.T3000008 ref5_Cost.sum3000008) else if i = 3000013 then some (sumOf ref5_Cost.T3000013 ref5_Cost.sum3000013) else if i = 3000012 then some (sumOf ref5_Cost.T3000012 ref5_Cost.sum3000012) else if i = 3000011 then some (sumOf ref5_Cost.T3000011 ref5_Cost.sum3000011) else if i = 3000016 then some (sumOf ref5_Cost.T3000016 ref5_Cost.sum3000016) else none
theorem ref5_Cost.x2000001 : ∀ v (K : Ex → S → Option (List DVal)), exec1 Try.prog ref5_Cost.C ref5_Cost.env ref5_Cost.L (spotOf Try.f55 2000001).2.1 (spotOf Try.f55 2000001).2.2 (pack ref5_Cost.T2000001 v) (fun e s' => K e (trim ref5_Cost.C (2000001 + 10000000) s')) = (fun (((v0, ()), (())) : FrV ref5_Cost.T2000001.fr × StV ref5_Cost.T2000001.st) => ref5_Cost.o2000001 v0 (fun e0 e1 => K .normal (pack ref5_Cost.X2000001_normal ((e0, e1, ()), (()))))) v :=
  fun ((v0, ()), (())) K => by kernel_rfl
theorem ref5_Cost.sum2000001_ok : SpotOk Try.prog ref5_Cost.C ref5_Cost.env ref5_Cost.L (spotOf Try.f55 2000001) := spotOk_of (T := ref5_Cost.T2000001) (q := 2000001) (f := ref5_Cost.sum2000001) (by kernel_rfl) (by kernel_rfl) fun ((v0, ()), (())) K r h => (ref5_Cost.x2000001 _ K).trans ((ref5_Cost.s2000001_eq v0 (fun e0 e1 => K .normal (pack ref5_Cost.X2000001_normal ((e0, e1, ()), (()))))).symm.trans h)
theorem ref5_Cost.x3000005 : ∀ v (K : Ex → S → Option (List DVal)), exec1 Try.prog ref5_Cost.C ref5_Cost.env ref5_Cost.L (spotOf Try.f55 3000005).2.1 (spotOf Try.f55 3000005).2.2 (pack ref5_Cost.T3000005 v) (fun e s' => K e (trim ref5_Cost.C (3000005 + 10000000) s')) = (fun (((v0, v1, ()), (())) : FrV ref5_Cost.T3000005.fr × StV ref5_Cost.T3000005.st) => ref5_Cost.o3000005 v0 v1 (fun e0 e1 => K .normal (pack ref5_Cost.X3000005_normal ((e0, e1, ()), (()))))) v :=
  fun ((v0, v1, ()), (())) K => by kernel_rfl
theorem ref5_Cost.sum3000005_ok : SpotOk Try.prog ref5_Cost.C ref5_Cost.env ref5_Cost.L (spotOf Try.f55 3000005) := spotOk_of (T := ref5_Cost.T3000005) (q := 3000005) (f := ref5_Cost.sum3000005) (by kernel_rfl) (by kernel_rfl) fun ((v0, v1, ()), (())) K r h => (ref5_Cost.x3000005 _ K).trans ((ref5_Cost.s3000005_eq v0 v1 (fun e0 e1 => K .normal (pack ref5_Cost.X3000005_normal ((e0, e1, ()), (()))))).symm.trans h)
theorem ref5_Cost.x3000004 : ∀ v (K : Ex → S → Option (List DVal)), exec1 Try.prog ref5_Cost.C ref5_Cost.env ref5_Cost.L (spotOf Try.f55 3000004).2.1 (spotOf Try.f55 3000004).2.2 (pack ref5_Cost.T3000004 v) (fun e s' => K e (trim ref5_Cost.C (3000004 + 10000000) s')) = (fun (((v0, v1, ()), (())) : FrV ref5_Cost.T3000004.fr × StV ref5_Cost.T3000004.st) => ref5_Cost.o3000004 v0 v1 (fun e0 e1 => K .normal (pack ref5_Cost.X3000004_normal ((e0, e1, ()), (()))))) v :=
  fun ((v0, v1, ()), (())) K => by kernel_rfl
theorem ref5_Cost.sum3000004_ok : SpotOk Try.prog ref5_Cost.C ref5_Cost.env ref5_Cost.L (spotOf Try.f55 3000004) := spotOk_of (T := ref5_Cost.T3000004) (q := 3000004) (f := ref5_Cost.sum3000004) (by kernel_rfl) (by kernel_rfl) fun ((v0, v1, ()), (())) K r h => (ref5_Cost.x3000004 _ K).trans ((ref5_Cost.s3000004_eq v0 v1 (fun e0 e1 => K .normal (pack ref5_Cost.X3000004_normal ((e0, e1, ()), (()))))).symm.trans h)
theorem ref5_Cost.x3000008 : ∀ v (K : Ex → S → Option (List DVal)), exec1 Try.prog ref5_Cost.C ref5_Cost.env ref5_Cost.L (spotOf Try.f55 3000008).2.1 (spotOf Try.f55 3000008).2.2 (pack ref5_Cost.T3000008 v) (fun e s' => K e (trim ref5_Cost.C (3000008 + 10000000) s')) = (fun (((v0, v1, ()), (())) : FrV ref5_Cost.T3000008.fr × StV ref5_Cost.T3000008.st) => ref5_Cost.o3000008 v0 v1 (fun e0 e1 => K .normal (pack ref5_Cost.X3000008_normal ((e0, e1, ()), (()))))) v :=
  fun ((v0, v1, ()), (())) K => by kernel_rfl
theorem ref5_Cost.sum3000008_ok : SpotOk Try.prog ref5_Cost.C ref5_Cost.env ref5_Cost.L (spotOf Try.f55 3000008) := spotOk_of (T := ref5_Cost.T3000008) (q := 3000008) (f := ref5_Cost.sum3000008) (by kernel_rfl) (by kernel_rfl) fun ((v0, v1, ()), (())) K r h => (ref5_Cost.x3000008 _ K).trans ((ref5_Cost.s3000008_eq v0 v1 (fun e0 e1 => K .normal (pack ref5_Cost.X3000008_normal ((e0, e1, ()), (()))))).symm.trans h)
theorem ref5_Cost.x3000013 : ∀ v (K : Ex → S → Option (List DVal)), exec1 Try.prog ref5_Cost.C ref5_Cost.env ref5_Cost.L (spotOf Try.f55 3000013).2.1 (spotOf Try.f55 3000013).2.2 (pack ref5_Cost.T3000013 v) (fun e s' => K e (trim ref5_Cost.C (3000013 + 10000000) s')) = (fun (((v0, v1, ()), (())) : FrV ref5_Cost.T3000013.fr × StV ref5_Cost.T3000013.st) => ref5_Cost.o3000013 v0 v1 (fun e0 e1 => K .normal (pack ref5_Cost.X3000013_normal ((e0, e1, ()), (()))))) v :=
  fun ((v0, v1, ()), (())) K => by kernel_rfl
theorem ref5_Cost.sum3000013_ok : SpotOk Try.prog ref5_Cost.C ref5_Cost.env ref5_Cost.L (spotOf Try.f55 3000013) := spotOk_of (T := ref5_Cost.T3000013) (q := 3000013) (f := ref5_Cost.sum3000013) (by kernel_rfl) (by kernel_rfl) fun ((v0, v1, ()), (())) K r h => (ref5_Cost.x3000013 _ K).trans ((ref5_Cost.s3000013_eq v0 v1 (fun e0 e1 => K .normal (pack ref5_Cost.X3000013_normal ((e0, e1, ()), (()))))).symm.trans h)
theorem ref5_Cost.x3000012 : ∀ v (K : Ex → S → Option (List DVal)), exec1 Try.prog ref5_Cost.C ref5_Cost.env ref5_Cost.L (spotOf Try.f55 3000012).2.1 (spotOf Try.f55 3000012).2.2 (pack ref5_Cost.T3000012 v) (fun e s' => K e (trim ref5_Cost.C (3000012 + 10000000) s')) = (fun (((v0, v1, ()), (())) : FrV ref5_Cost.T3000012.fr × StV ref5_Cost.T3000012.st) => ref5_Cost.o3000012 v0 v1 (fun e0 e1 => K .normal (pack ref5_Cost.X3000012_normal ((e0, e1, ()), (()))))) v :=
  fun ((v0, v1, ()), (())) K => by kernel_rfl
theorem ref5_Cost.sum3000012_ok : SpotOk Try.prog ref5_Cost.C ref5_Cost.env ref5_Cost.L (spotOf Try.f55 3000012) := spotOk_of (T := ref5_Cost.T3000012) (q := 3000012) (f := ref5_Cost.sum3000012) (by kernel_rfl) (by kernel_rfl) fun ((v0, v1, ()), (())) K r h => (ref5_Cost.x3000012 _ K).trans ((ref5_Cost.s3000012_eq v0 v1 (fun e0 e1 => K .normal (pack ref5_Cost.X3000012_normal ((e0, e1, ()), (()))))).symm.trans h)
theorem ref5_Cost.x3000011 : ∀ v (K : Ex → S → Option (List DVal)), exec1 Try.prog ref5_Cost.C ref5_Cost.env ref5_Cost.L (spotOf Try.f55 3000011).2.1 (spotOf Try.f55 3000011).2.2 (pack ref5_Cost.T3000011 v) (fun e s' => K e (trim ref5_Cost.C (3000011 + 10000000) s')) = (fun (((v0, v1, ()), (())) : FrV ref5_Cost.T3000011.fr × StV ref5_Cost.T3000011.st) => ref5_Cost.o3000011 v0 v1 (fun e0 e1 => K .normal (pack ref5_Cost.X3000011_normal ((e0, e1, ()), (()))))) v :=
  fun ((v0, v1, ()), (())) K => by kernel_rfl
theorem ref5_Cost.sum3000011_ok : SpotOk Try.prog ref5_Cost.C ref5_Cost.env ref5_Cost.L (spotOf Try.f55 3000011) := spotOk_of (T := ref5_Cost.T3000011) (q := 3000011) (f := ref5_Cost.sum3000011) (by kernel_rfl) (by kernel_rfl) fun ((v0, v1, ()), (())) K r h => (ref5_Cost.x3000011 _ K).trans ((ref5_Cost.s3000011_eq v0 v1 (fun e0 e1 => K .normal (pack ref5_Cost.X3000011_normal ((e0, e1, ()), (()))))).symm.trans h)
theorem ref5_Cost.x3000016 : ∀ v (K : Ex → S → Option (List DVal)), exec1 Try.prog ref5_Cost.C ref5_Cost.env ref5_Cost.L (spotOf Try.f55 3000016).2.1 (spotOf Try.f55 3000016).2.2 (pack ref5_Cost.T3000016 v) (fun e s' => K e (trim ref5_Cost.C (3000016 + 10000000) s')) = (fun (((v0, v1, ()), (())) : FrV ref5_Cost.T3000016.fr × StV ref5_Cost.T3000016.st) => ref5_Cost.o3000016 v0 v1 (fun e0 => K .normal (pack ref5_Cost.X3000016_normal ((e0, ()), (()))))) v :=
  fun ((v0, v1, ()), (())) K => by kernel_rfl
theorem ref5_Cost.sum3000016_ok : SpotOk Try.prog ref5_Cost.C ref5_Cost.env ref5_Cost.L (spotOf Try.f55 3000016) := spotOk_of (T := ref5_Cost.T3000016) (q := 3000016) (f := ref5_Cost.sum3000016) (by kernel_rfl) (by kernel_rfl) fun ((v0, v1, ()), (())) K r h => (ref5_Cost.x3000016 _ K).trans ((ref5_Cost.s3000016_eq v0 v1 (fun e0 => K .normal (pack ref5_Cost.X3000016_normal ((e0, ()), (()))))).symm.trans h)
def ref5_Cost.tree {R : Type} (a0 : Int) (ret : Int → Option R) : Option R :=
  bif decide (a0 < (1 : Int)) || decide (a0 ≥ (32 : Int)) then ret (0 : Int) else bif bif a0 == (12 : Int) then a0 == (12 : Int) else bif a0 == (13 : Int) then a0 == (13 : Int) else a0 == (14 : Int) then ret (3 : Int) else bif bif a0 == (15 : Int) then a0 == (15 : Int) else a0 == (16 : Int) then ret (12 : Int) else bif bif decide (ref5_Loads a0 > (0 : Int)) then decide (ref5_Loads a0 > (0 : Int)) else bif decide (ref5_Stores a0 > (0 : Int)) then decide (ref5_Stores a0 > (0 : Int)) else bif a0 == (28 : Int) then a0 == (28 : Int) else a0 == (29 : Int) then ret (2 : Int) else bif bif a0 == (30 : Int) then a0 == (30 : Int) else a0 == (31 : Int) then ret (4 : Int) else ret (1 : Int)
theorem ref5_Cost.eq (a0 : Int) : body Try.prog ref5_Cost.C ref5_Cost.env ref5_Cost.L Try.f55 [⟨Ty.int IntKind.i64, a0⟩] = ref5_Cost.tree a0 (fun r0 => some ([⟨Ty.int IntKind.i64, r0⟩] : List DVal)) := by kernel_rfl
def ref5_Cost (a0 : Int) : Int :=
  bif decide (a0 < (1 : Int)) || decide (a0 ≥ (32 : Int)) then (0 : Int) else bif bif a0 == (12 : Int) then a0 == (12 : Int) else bif a0 == (13 : Int) then a0 == (13 : Int) else a0 == (14 : Int) then (3 : Int) else bif bif a0 == (15 : Int) then a0 == (15 : Int) else a0 == (16 : Int) then (12 : Int) else bif bif decide (ref5_Loads a0 > (0 : Int)) then decide (ref5_Loads a0 > (0 : Int)) else bif decide (ref5_Stores a0 > (0 : Int)) then decide (ref5_Stores a0 > (0 : Int)) else bif a0 == (28 : Int) then a0 == (28 : Int) else a0 == (29 : Int) then (2 : Int) else bif bif a0 == (30 : Int) then a0 == (30 : Int) else a0 == (31 : Int) then (4 : Int) else (1 : Int)
theorem ref5_Cost.nice {R : Type} (a0 : Int) (ret : Int → Option R) : ref5_Cost.tree a0 ret = ret (ref5_Cost a0) := by
  unfold ref5_Cost.tree ref5_Cost
  simp only [Bool.apply_cond ret]
def ref5_Cost.ctr : Ctr := ctrOf [Ty.int IntKind.i64] fun x => .ret [⟨Ty.int IntKind.i64, ref5_Cost (x.1)⟩]
theorem ref5_Cost.known : Known Try.prog 55 ref5_Cost.ctr :=
  known_plain ref5_Cost.envOk mixed Try.func55 (by kernel_rfl) (by kernel_rfl) (noLoops (by kernel_rfl)) (bySpot (ids := [2000001, 3000005, 3000004, 3000008, 3000013, 3000012, 3000011, 3000016]) (by kernel_rfl) (by intro q hq; simp only [List.mem_cons, List.not_mem_nil, or_false] at hq; rcases hq with rfl | rfl | rfl | rfl | rfl | rfl | rfl | rfl <;> first | exact ref5_Cost.sum2000001_ok | exact ref5_Cost.sum3000005_ok | exact ref5_Cost.sum3000004_ok | exact ref5_Cost.sum3000008_ok | exact ref5_Cost.sum3000013_ok | exact ref5_Cost.sum3000012_ok | exact ref5_Cost.sum3000011_ok | exact ref5_Cost.sum3000016_ok)) fun x rs h => by
    obtain ⟨a0, u⟩ := x
    cases u
    simp only [Cmd.val_ret] at h
    exact (ref5_Cost.eq a0).trans ((ref5_Cost.nice a0 (fun r0 => some ([⟨Ty.int IntKind.i64, r0⟩] : List DVal))).trans h)

/-! ### host_register -/
def host_register.env : Env := envNil
theorem host_register.envOk : EnvOk Try.prog host_register.env := envOk_nil _
def host_register.T2000001 : Tm := ⟨fill 0 18 [(0, Sl.data (Ty.int IntKind.i64)), (1, Sl.data Ty.bool)], []⟩
def host_register.X2000001_normal : Tm := ⟨fill 0 18 [(4, Sl.data Ty.bool)], []⟩
def host_register.o2000001 {R : Type} (v0 : Int) (v1 : Bool) (knormal : Bool → Option R) : Option R :=
  bif v0 == (0 : Int) then knormal true else bif v1 then bif decide (v0 > (0 : Int)) then knormal (decide (v0 < (32 : Int))) else knormal false else knormal false
def host_register.s2000001 {R : Type} (v0 : Int) (v1 : Bool) (knormal : Bool → Option R) : Option R :=
  knormal (v0 == (0 : Int) || v1 && (decide (v0 > (0 : Int)) && decide (v0 < (32 : Int))))
theorem host_register.s2000001_eq {R : Type} (v0 : Int) (v1 : Bool) (knormal : Bool → Option R) : host_register.s2000001 v0 v1 knormal = host_register.o2000001 v0 v1 knormal := by
  unfold host_register.s2000001 host_register.o2000001
  (cases hc : v0 == (0 : Int) with | false => (cases hc : v1 with | false => (first | rfl | simp_all) | true => (cases hc : decide (v0 > (0 : Int)) with | false => (first | rfl | simp_all) | true => (first | rfl | simp_all))) | true => (first | rfl | simp_all))
def host_register.C : Cfg := { rows := [], keep := [(2000001, [0, 1], []), (12000001, [4], [])], adopt := [] }
def host_register.sum2000001 : FrV host_register.T2000001.fr × StV host_register.T2000001.st → (Ex → S → Option (List DVal)) → Option (List DVal) := fun ((v0, v1, ()), (())) K => host_register.s2000001 v0 v1 (fun e0 => K .normal (pack host_register.X2000001_normal ((e0, ()), (()))))
def host_register.L : Nat → Option Sum := fun i => if i = 2000001 then some (sumOf host_register.T2000001 host_register.sum2000001) else none
theorem host_register.x2000001 : ∀ v (K : Ex → S → Option (List DVal)), exec1 Try.prog host_register.C host_register.env host_register.L (spotOf Try.f60 2000001).2.1 (spotOf Try.f60 2000001).2.2 (pack host_register.T2000001 v) (fun e s' => K e (trim host_register.C (2000001 + 10000000) s')) = (fun (((v0, v1, ()), (())) : FrV host_register.T2000001.fr × StV host_register.T2000001.st) => host_register.o2000001 v0 v1 (fun e0 => K .normal (pack host_register.X2000001_normal ((e0, ()), (()))))) v :=
  fun ((v0, v1, ()), (())) K => by kernel_rfl
theorem host_register.sum2000001_ok : SpotOk Try.prog host_register.C host_register.env host_register.L (spotOf Try.f60 2000001) := spotOk_of (T := host_register.T2000001) (q := 2000001) (f := host_register.sum2000001) (by kernel_rfl) (by kernel_rfl) fun ((v0, v1, ()), (())) K r h => (host_register.x2000001 _ K).trans ((host_register.s2000001_eq v0 v1 (fun e0 => K .normal (pack host_register.X2000001_normal ((e0, ()), (()))))).symm.trans h)
def host_register.tree {R : Type} (a0 : Int) (a1 : Bool) (ret : Bool → Option R) : Option R :=
  ret (a0 == (0 : Int) || a1 && (decide (a0 > (0 : Int)) && decide (a0 < (32 : Int))))
theorem host_register.eq (a0 : Int) (a1 : Bool) : body Try.prog host_register.C host_register.env host_register.L Try.f60 [⟨Ty.int IntKind.i64, a0⟩, ⟨Ty.bool, a1⟩] = host_register.tree a0 a1 (fun r0 => some ([⟨Ty.bool, r0⟩] : List DVal)) := by kernel_rfl
def host_register (a0 : Int) (a1 : Bool) : Bool :=
  a0 == (0 : Int) || a1 && (decide (a0 > (0 : Int)) && decide (a0 < (32 : Int)))
theorem host_register.nice {R : Type} (a0 : Int) (a1 : Bool) (ret : Bool → Option R) : host_register.tree a0 a1 ret = ret (host_register a0 a1) := by
  unfold host_register.tree host_register
  simp only [Bool.apply_cond ret]
def host_register.ctr : Ctr := ctrOf [Ty.int IntKind.i64, Ty.bool] fun x => .ret [⟨Ty.bool, host_register (x.1) (x.2.1)⟩]
theorem host_register.known : Known Try.prog 60 host_register.ctr :=
  known_plain host_register.envOk mixed Try.func60 (by kernel_rfl) (by kernel_rfl) (noLoops (by kernel_rfl)) (bySpot (ids := [2000001]) (by kernel_rfl) (by intro q hq; simp only [List.mem_cons, List.not_mem_nil, or_false] at hq; subst hq; first | exact host_register.sum2000001_ok)) fun x rs h => by
    obtain ⟨a0, a1, u⟩ := x
    cases u
    simp only [Cmd.val_ret] at h
    exact (host_register.eq a0 a1).trans ((host_register.nice a0 a1 (fun r0 => some ([⟨Ty.bool, r0⟩] : List DVal))).trans h)

/-! ### host_Name -/
def host_Name.env : Env := envNil
theorem host_Name.envOk : EnvOk Try.prog host_Name.env := envOk_nil _
def host_Name.T2000002 : Tm := ⟨fill 0 17 [(0, Sl.data (Ty.int IntKind.i64)), (3, Sl.data (Ty.sl Ty.str))], []⟩
def host_Name.X2000002_normal : Tm := ⟨fill 0 17 [(0, Sl.data (Ty.int IntKind.i64)), (3, Sl.data (Ty.sl Ty.str)), (12, Sl.data Ty.bool)], []⟩
def host_Name.o2000002 {R : Type} (v0 : Int) (v1 : List ByteArray) (knormal : Int → (List ByteArray) → Bool → Option R) : Option R :=
  bif decide (v0 < (0 : Int)) then knormal v0 v1 true else knormal v0 v1 (decide (v0 ≥ ↑(List.length v1)))
def host_Name.s2000002 {R : Type} (v0 : Int) (v1 : List ByteArray) (knormal : Int → (List ByteArray) → Bool → Option R) : Option R :=
  knormal v0 v1 (decide (v0 < (0 : Int)) || decide (v0 ≥ ↑(List.length v1)))
theorem host_Name.s2000002_eq {R : Type} (v0 : Int) (v1 : List ByteArray) (knormal : Int → (List ByteArray) → Bool → Option R) : host_Name.s2000002 v0 v1 knormal = host_Name.o2000002 v0 v1 knormal := by
  unfold host_Name.s2000002 host_Name.o2000002
  (cases hc : decide (v0 < (0 : Int)) with | false => (first | rfl | simp_all) | true => (first | rfl | simp_all))
def host_Name.C : Cfg := { rows := [], keep := [(2000002, [0, 3], []), (12000002, [0, 3, 12], [])], adopt := [] }
def host_Name.sum2000002 : FrV host_Name.T2000002.fr × StV host_Name.T2000002.st → (Ex → S → Option (List DVal)) → Option (List DVal) := fun ((v0, v1, ()), (())) K => host_Name.s2000002 v0 v1 (fun e0 e1 e2 => K .normal (pack host_Name.X2000002_normal ((e0, e1, e2, ()), (()))))
def host_Name.L : Nat → Option Sum := fun i => if i = 2000002 then some (sumOf host_Name.T2000002 host_Name.sum2000002) else none
theorem host_Name.x2000002 : ∀ v (K : Ex → S → Option (List DVal)), exec1 Try.prog host_Name.C host_Name.env host_Name.L (spotOf Try.f54 2000002).2.1 (spotOf Try.f54 2000002).2.2 (pack host_Name.T2000002 v) (fun e s' => K e (trim host_Name.C (2000002 + 10000000) s')) = (fun (((v0, v1, ()), (())) : FrV host_Name.T2000002.fr × StV host_Name.T2000002.st) => host_Name.o2000002 v0 v1 (fun e0 e1 e2 => K .normal (pack host_Name.X2000002_normal ((e0, e1, e2, ()), (()))))) v :=
  fun ((v0, v1, ()), (())) K => by kernel_rfl
theorem host_Name.sum2000002_ok : SpotOk Try.prog host_Name.C host_Name.env host_Name.L (spotOf Try.f54 2000002) := spotOk_of (T := host_Name.T2000002) (q := 2000002) (f := host_Name.sum2000002) (by kernel_rfl) (by kernel_rfl) fun ((v0, v1, ()), (())) K r h => (host_Name.x2000002 _ K).trans ((host_Name.s2000002_eq v0 v1 (fun e0 e1 e2 => K .normal (pack host_Name.X2000002_normal ((e0, e1, e2, ()), (()))))).symm.trans h)
def host_Name.tree {R : Type} (a0 : Int) (ret : ByteArray → Option R) : Option R :=
  bif decide (a0 < (0 : Int)) || decide (a0 ≥ (32 : Int)) then ret { data := List.toArray (nilOf UInt8) } else bif decide ((0 : Int) ≤ a0) && decide (a0 < (32 : Int)) then ret (List.getD [{ data := List.toArray (nilOf UInt8) }, { data := #[(77 : UInt8), (111 : UInt8), (118 : UInt8), (73 : UInt8)] }, { data := #[(77 : UInt8), (111 : UInt8), (118 : UInt8)] }, { data := #[(65 : UInt8), (100 : UInt8), (100 : UInt8)] }, { data := #[(83 : UInt8), (117 : UInt8), (98 : UInt8)] }, { data := #[(65 : UInt8), (110 : UInt8), (100 : UInt8)] }, { data := #[(79 : UInt8), (114 : UInt8)] }, { data := #[(88 : UInt8), (111 : UInt8), (114 : UInt8)] }, { data := #[(83 : UInt8), (104 : UInt8), (108 : UInt8)] }, { data := #[(83 : UInt8), (104 : UInt8), (114 : UInt8)] }, { data := #[(83 : UInt8), (97 : UInt8), (114 : UInt8)] }, { data := #[(82 : UInt8), (111 : UInt8), (114 : UInt8)] }, { data := #[(77 : UInt8), (117 : UInt8), (108 : UInt8)] }, { data := #[(77 : UInt8), (117 : UInt8), (108 : UInt8), (85 : UInt8)] }, { data := #[(77 : UInt8), (117 : UInt8), (108 : UInt8), (83 : UInt8)] }, { data := #[(68 : UInt8), (105 : UInt8), (118 : UInt8), (85 : UInt8)] }, { data := #[(68 : UInt8), (105 : UInt8), (118 : UInt8), (83 : UInt8)] }, { data := #[(67 : UInt8), (108 : UInt8), (122 : UInt8)] }, { data := #[(76 : UInt8), (116 : UInt8), (85 : UInt8)] }, { data := #[(76 : UInt8), (116 : UInt8), (83 : UInt8)] }, { data := #[(69 : UInt8), (113 : UInt8)] }, { data := #[(83 : UInt8), (101 : UInt8), (108 : UInt8)] }, { data := #[(76 : UInt8), (100 : UInt8), (49 : UInt8)] }, { data := #[(76 : UInt8), (100 : UInt8), (50 : UInt8)] }, { data := #[(76 : UInt8), (100 : UInt8), (52 : UInt8)] }, { data := #[(83 : UInt8), (116 : UInt8), (49 : UInt8)] }, { data := #[(83 : UInt8), (116 : UInt8), (50 : UInt8)] }, { data := #[(83 : UInt8), (116 : UInt8), (52 : UInt8)] }, { data := #[(74 : UInt8), (109 : UInt8), (112 : UInt8)] }, { data := #[(74 : UInt8), (122 : UInt8)] }, { data := #[(69 : UInt8), (120 : UInt8), (105 : UInt8), (116 : UInt8)] }, { data := #[(84 : UInt8), (114 : UInt8), (97 : UInt8), (112 : UInt8)] }] (Int.toNat a0) (Ty.dflt Ty.str)) else none
theorem host_Name.eq (a0 : Int) : body Try.prog host_Name.C host_Name.env host_Name.L Try.f54 [⟨Ty.int IntKind.i64, a0⟩] = host_Name.tree a0 (fun r0 => some ([⟨Ty.str, r0⟩] : List DVal)) := by kernel_rfl
def host_Name (o : Int) : ByteArray := (host_Name.tree (R := ByteArray) o some).getD ByteArray.empty
theorem host_Name.nice {R : Type} (o : Int) (ret : ByteArray → Option R) : host_Name.tree o ret = ret (host_Name o) := by
  unfold host_Name host_Name.tree
  by_cases h1 : 0 ≤ o <;> by_cases h2 : o < 32
  · rw [decide_eq_false (by omega : ¬ o < 0), decide_eq_false (by omega : ¬ o ≥ 32), decide_eq_true h1, decide_eq_true h2]; rfl
  · rw [decide_eq_true (by omega : o ≥ 32), Bool.or_true]; rfl
  · rw [decide_eq_true (by omega : o < 0), Bool.true_or]; rfl
  · rw [decide_eq_true (by omega : o < 0), Bool.true_or]; rfl
def host_Name.ctr : Ctr := ctrOf [Ty.int IntKind.i64] fun x => .ret [⟨Ty.str, host_Name (x.1)⟩]
theorem host_Name.known : Known Try.prog 54 host_Name.ctr :=
  known_plain host_Name.envOk mixed Try.func54 (by kernel_rfl) (by kernel_rfl) (noLoops (by kernel_rfl)) (bySpot (ids := [2000002]) (by kernel_rfl) (by intro q hq; simp only [List.mem_cons, List.not_mem_nil, or_false] at hq; subst hq; first | exact host_Name.sum2000002_ok)) fun x rs h => by
    obtain ⟨a0, u⟩ := x
    cases u
    simp only [Cmd.val_ret] at h
    exact (host_Name.eq a0).trans ((host_Name.nice a0 (fun r0 => some ([⟨Ty.str, r0⟩] : List DVal))).trans h)

/-! ### ref5_Name -/
def ref5_Name.env : Env := envNil
theorem ref5_Name.envOk : EnvOk Try.prog ref5_Name.env := envOk_nil _
def ref5_Name.T2000002 : Tm := ⟨fill 0 18 [(0, Sl.data (Ty.int IntKind.i64)), (3, Sl.data (Ty.sl Ty.str))], []⟩
def ref5_Name.X2000002_normal : Tm := ⟨fill 0 18 [(0, Sl.data (Ty.int IntKind.i64)), (3, Sl.data (Ty.sl Ty.str)), (12, Sl.data Ty.bool)], []⟩
def ref5_Name.o2000002 {R : Type} (v0 : Int) (v1 : List ByteArray) (knormal : Int → (List ByteArray) → Bool → Option R) : Option R :=
  bif decide (v0 < (1 : Int)) then knormal v0 v1 true else knormal v0 v1 (decide (v0 > ↑(List.length v1)))
def ref5_Name.s2000002 {R : Type} (v0 : Int) (v1 : List ByteArray) (knormal : Int → (List ByteArray) → Bool → Option R) : Option R :=
  knormal v0 v1 (decide (v0 < (1 : Int)) || decide (v0 > ↑(List.length v1)))
theorem ref5_Name.s2000002_eq {R : Type} (v0 : Int) (v1 : List ByteArray) (knormal : Int → (List ByteArray) → Bool → Option R) : ref5_Name.s2000002 v0 v1 knormal = ref5_Name.o2000002 v0 v1 knormal := by
  unfold ref5_Name.s2000002 ref5_Name.o2000002
  (cases hc : decide (v0 < (1 : Int)) with | false => (first | rfl | simp_all) | true => (first | rfl | simp_all))
def ref5_Name.C : Cfg := { rows := [], keep := [(2000002, [0, 3], []), (12000002, [0, 3, 12], [])], adopt := [] }
def ref5_Name.sum2000002 : FrV ref5_Name.T2000002.fr × StV ref5_Name.T2000002.st → (Ex → S → Option (List DVal)) → Option (List DVal) := fun ((v0, v1, ()), (())) K => ref5_Name.s2000002 v0 v1 (fun e0 e1 e2 => K .normal (pack ref5_Name.X2000002_normal ((e0, e1, e2, ()), (()))))
def ref5_Name.L : Nat → Option Sum := fun i => if i = 2000002 then some (sumOf ref5_Name.T2000002 ref5_Name.sum2000002) else none
theorem ref5_Name.x2000002 : ∀ v (K : Ex → S → Option (List DVal)), exec1 Try.prog ref5_Name.C ref5_Name.env ref5_Name.L (spotOf Try.f58 2000002).2.1 (spotOf Try.f58 2000002).2.2 (pack ref5_Name.T2000002 v) (fun e s' => K e (trim ref5_Name.C (2000002 + 10000000) s')) = (fun (((v0, v1, ()), (())) : FrV ref5_Name.T2000002.fr × StV ref5_Name.T2000002.st) => ref5_Name.o2000002 v0 v1 (fun e0 e1 e2 => K .normal (pack ref5_Name.X2000002_normal ((e0, e1, e2, ()), (()))))) v :=
  fun ((v0, v1, ()), (())) K => by kernel_rfl
theorem ref5_Name.sum2000002_ok : SpotOk Try.prog ref5_Name.C ref5_Name.env ref5_Name.L (spotOf Try.f58 2000002) := spotOk_of (T := ref5_Name.T2000002) (q := 2000002) (f := ref5_Name.sum2000002) (by kernel_rfl) (by kernel_rfl) fun ((v0, v1, ()), (())) K r h => (ref5_Name.x2000002 _ K).trans ((ref5_Name.s2000002_eq v0 v1 (fun e0 e1 e2 => K .normal (pack ref5_Name.X2000002_normal ((e0, e1, e2, ()), (()))))).symm.trans h)
def ref5_Name.tree {R : Type} (a0 : Int) (ret : ByteArray → Option R) : Option R :=
  bif decide (a0 < (1 : Int)) || decide (a0 > (31 : Int)) then ret { data := List.toArray (nilOf UInt8) } else bif decide ((0 : Int) ≤ IntKind.wrap IntKind.i64 (a0 - (1 : Int))) && decide (IntKind.wrap IntKind.i64 (a0 - (1 : Int)) < (31 : Int)) then ret (List.getD [{ data := #[(77 : UInt8), (111 : UInt8), (118 : UInt8), (73 : UInt8)] }, { data := #[(77 : UInt8), (111 : UInt8), (118 : UInt8)] }, { data := #[(65 : UInt8), (100 : UInt8), (100 : UInt8)] }, { data := #[(83 : UInt8), (117 : UInt8), (98 : UInt8)] }, { data := #[(65 : UInt8), (110 : UInt8), (100 : UInt8)] }, { data := #[(79 : UInt8), (114 : UInt8)] }, { data := #[(88 : UInt8), (111 : UInt8), (114 : UInt8)] }, { data := #[(83 : UInt8), (104 : UInt8), (108 : UInt8)] }, { data := #[(83 : UInt8), (104 : UInt8), (114 : UInt8)] }, { data := #[(83 : UInt8), (97 : UInt8), (114 : UInt8)] }, { data := #[(82 : UInt8), (111 : UInt8), (114 : UInt8)] }, { data := #[(77 : UInt8), (117 : UInt8), (108 : UInt8)] }, { data := #[(77 : UInt8), (117 : UInt8), (108 : UInt8), (85 : UInt8)] }, { data := #[(77 : UInt8), (117 : UInt8), (108 : UInt8), (83 : UInt8)] }, { data := #[(68 : UInt8), (105 : UInt8), (118 : UInt8), (85 : UInt8)] }, { data := #[(68 : UInt8), (105 : UInt8), (118 : UInt8), (83 : UInt8)] }, { data := #[(67 : UInt8), (108 : UInt8), (122 : UInt8)] }, { data := #[(76 : UInt8), (116 : UInt8), (85 : UInt8)] }, { data := #[(76 : UInt8), (116 : UInt8), (83 : UInt8)] }, { data := #[(69 : UInt8), (113 : UInt8)] }, { data := #[(83 : UInt8), (101 : UInt8), (108 : UInt8)] }, { data := #[(76 : UInt8), (100 : UInt8), (49 : UInt8)] }, { data := #[(76 : UInt8), (100 : UInt8), (50 : UInt8)] }, { data := #[(76 : UInt8), (100 : UInt8), (52 : UInt8)] }, { data := #[(83 : UInt8), (116 : UInt8), (49 : UInt8)] }, { data := #[(83 : UInt8), (116 : UInt8), (50 : UInt8)] }, { data := #[(83 : UInt8), (116 : UInt8), (52 : UInt8)] }, { data := #[(74 : UInt8), (109 : UInt8), (112 : UInt8)] }, { data := #[(74 : UInt8), (122 : UInt8)] }, { data := #[(69 : UInt8), (120 : UInt8), (105 : UInt8), (116 : UInt8)] }, { data := #[(84 : UInt8), (114 : UInt8), (97 : UInt8), (112 : UInt8)] }] (Int.toNat (IntKind.wrap IntKind.i64 (a0 - (1 : Int)))) (Ty.dflt Ty.str)) else none
theorem ref5_Name.eq (a0 : Int) : body Try.prog ref5_Name.C ref5_Name.env ref5_Name.L Try.f58 [⟨Ty.int IntKind.i64, a0⟩] = ref5_Name.tree a0 (fun r0 => some ([⟨Ty.str, r0⟩] : List DVal)) := by kernel_rfl
def ref5_Name (o : Int) : ByteArray := (ref5_Name.tree (R := ByteArray) o some).getD ByteArray.empty
theorem ref5_Name.nice {R : Type} (o : Int) (ret : ByteArray → Option R) : ref5_Name.tree o ret = ret (ref5_Name o) := by
  unfold ref5_Name ref5_Name.tree
  by_cases h1 : 1 ≤ o <;> by_cases h2 : o ≤ 31
  · have e : IntKind.wrap IntKind.i64 (o - 1) = o - 1 := by rw [IntKind.wrap_i64]; omega
    rw [e, decide_eq_false (by omega : ¬ o < 1), decide_eq_false (by omega : ¬ o > 31), decide_eq_true (by omega : 0 ≤ o - 1), decide_eq_true (by omega : o - 1 < 31)]; rfl
  · rw [decide_eq_true (by omega : o > 31), Bool.or_true]; rfl
  · rw [decide_eq_true (by omega : o < 1), Bool.true_or]; rfl
  · rw [decide_eq_true (by omega : o < 1), Bool.true_or]; rfl
def ref5_Name.ctr : Ctr := ctrOf [Ty.int IntKind.i64] fun x => .ret [⟨Ty.str, ref5_Name (x.1)⟩]
theorem ref5_Name.known : Known Try.prog 58 ref5_Name.ctr :=
  known_plain ref5_Name.envOk mixed Try.func58 (by kernel_rfl) (by kernel_rfl) (noLoops (by kernel_rfl)) (bySpot (ids := [2000002]) (by kernel_rfl) (by intro q hq; simp only [List.mem_cons, List.not_mem_nil, or_false] at hq; subst hq; first | exact ref5_Name.sum2000002_ok)) fun x rs h => by
    obtain ⟨a0, u⟩ := x
    cases u
    simp only [Cmd.val_ret] at h
    exact (ref5_Name.eq a0).trans ((ref5_Name.nice a0 (fun r0 => some ([⟨Ty.str, r0⟩] : List DVal))).trans h)

/-! ### law5_same -/
def law5_same.env : Env := envCons 22 host_Cost.ctr <| envCons 55 ref5_Cost.ctr <| envCons 23 host_Loads.ctr <| envCons 56 ref5_Loads.ctr <| envCons 24 host_Stores.ctr <| envCons 57 ref5_Stores.ctr <| envCons 54 host_Name.ctr <| envCons 58 ref5_Name.ctr <| envNil
theorem law5_same.envOk : EnvOk Try.prog law5_same.env := envOk_cons host_Cost.known (envOk_cons ref5_Cost.known (envOk_cons host_Loads.known (envOk_cons ref5_Loads.known (envOk_cons host_Stores.known (envOk_cons ref5_Stores.known (envOk_cons host_Name.known (envOk_cons ref5_Name.known (envOk_nil _))))))))
def law5_same.T2000001 : Tm := ⟨fill 0 29 [(0, Sl.data (Ty.int IntKind.i64))], []⟩
def law5_same.X2000001_normal : Tm := ⟨fill 0 29 [(2, Sl.data Ty.bool)], []⟩
def law5_same.o2000001 {R : Type} (v0 : Int) (knormal : Bool → Option R) : Option R :=
  bif host_Cost v0 == ref5_Cost v0 then bif host_Loads v0 == ref5_Loads v0 then bif host_Stores v0 == ref5_Stores v0 then knormal (ByteArray.toList (host_Name v0) == ByteArray.toList (ref5_Name v0)) else knormal false else knormal false else knormal false
def law5_same.s2000001 {R : Type} (v0 : Int) (knormal : Bool → Option R) : Option R :=
  knormal (host_Cost v0 == ref5_Cost v0 && (host_Loads v0 == ref5_Loads v0 && (host_Stores v0 == ref5_Stores v0 && ByteArray.toList (host_Name v0) == ByteArray.toList (ref5_Name v0))))
theorem law5_same.s2000001_eq {R : Type} (v0 : Int) (knormal : Bool → Option R) : law5_same.s2000001 v0 knormal = law5_same.o2000001 v0 knormal := by
  unfold law5_same.s2000001 law5_same.o2000001
  (cases hc : host_Cost v0 == ref5_Cost v0 with | false => (first | rfl | simp_all) | true => (cases hc : host_Loads v0 == ref5_Loads v0 with | false => (first | rfl | simp_all) | true => (cases hc : host_Stores v0 == ref5_Stores v0 with | false => (first | rfl | simp_all) | true => (first | rfl | simp_all))))
def law5_same.C : Cfg := { rows := [], keep := [(2000001, [0], []), (12000001, [2], [])], adopt := [] }
def law5_same.sum2000001 : FrV law5_same.T2000001.fr × StV law5_same.T2000001.st → (Ex → S → Option (List DVal)) → Option (List DVal) := fun ((v0, ()), (())) K => law5_same.s2000001 v0 (fun e0 => K .normal (pack law5_same.X2000001_normal ((e0, ()), (()))))
def law5_same.L : Nat → Option Sum := fun i => if i = 2000001 then some (sumOf law5_same.T2000001 law5_same.sum2000001) else none
theorem law5_same.x2000001 : ∀ v (K : Ex → S → Option (List DVal)), exec1 Try.prog law5_same.C law5_same.env law5_same.L (spotOf Try.f15 2000001).2.1 (spotOf Try.f15 2000001).2.2 (pack law5_same.T2000001 v) (fun e s' => K e (trim law5_same.C (2000001 + 10000000) s')) = (fun (((v0, ()), (())) : FrV law5_same.T2000001.fr × StV law5_same.T2000001.st) => law5_same.o2000001 v0 (fun e0 => K .normal (pack law5_same.X2000001_normal ((e0, ()), (()))))) v :=
  fun ((v0, ()), (())) K => by kernel_rfl
theorem law5_same.sum2000001_ok : SpotOk Try.prog law5_same.C law5_same.env law5_same.L (spotOf Try.f15 2000001) := spotOk_of (T := law5_same.T2000001) (q := 2000001) (f := law5_same.sum2000001) (by kernel_rfl) (by kernel_rfl) fun ((v0, ()), (())) K r h => (law5_same.x2000001 _ K).trans ((law5_same.s2000001_eq v0 (fun e0 => K .normal (pack law5_same.X2000001_normal ((e0, ()), (()))))).symm.trans h)
def law5_same.tree {R : Type} (a0 : Int) (ret : Bool → Option R) : Option R :=
  ret (host_Cost a0 == ref5_Cost a0 && (host_Loads a0 == ref5_Loads a0 && (host_Stores a0 == ref5_Stores a0 && ByteArray.toList (host_Name a0) == ByteArray.toList (ref5_Name a0))))
theorem law5_same.eq (a0 : Int) : body Try.prog law5_same.C law5_same.env law5_same.L Try.f15 [⟨Ty.int IntKind.i64, a0⟩] = law5_same.tree a0 (fun r0 => some ([⟨Ty.bool, r0⟩] : List DVal)) := by kernel_rfl
def law5_same (a0 : Int) : Bool :=
  host_Cost a0 == ref5_Cost a0 && (host_Loads a0 == ref5_Loads a0 && (host_Stores a0 == ref5_Stores a0 && ByteArray.toList (host_Name a0) == ByteArray.toList (ref5_Name a0)))
theorem law5_same.nice {R : Type} (a0 : Int) (ret : Bool → Option R) : law5_same.tree a0 ret = ret (law5_same a0) := by
  unfold law5_same.tree law5_same
  simp only [Bool.apply_cond ret]
def law5_same.ctr : Ctr := ctrOf [Ty.int IntKind.i64] fun x => .ret [⟨Ty.bool, law5_same (x.1)⟩]
theorem law5_same.known : Known Try.prog 15 law5_same.ctr :=
  known_plain law5_same.envOk mixed Try.func15 (by kernel_rfl) (by kernel_rfl) (noLoops (by kernel_rfl)) (bySpot (ids := [2000001]) (by kernel_rfl) (by intro q hq; simp only [List.mem_cons, List.not_mem_nil, or_false] at hq; subst hq; first | exact law5_same.sum2000001_ok)) fun x rs h => by
    obtain ⟨a0, u⟩ := x
    cases u
    simp only [Cmd.val_ret] at h
    exact (law5_same.eq a0).trans ((law5_same.nice a0 (fun r0 => some ([⟨Ty.bool, r0⟩] : List DVal))).trans h)

/-! ### host_Right -/
def host_Right.env : Env := envCons 59 host_fields.ctr <| envCons 60 host_register.ctr <| envNil
theorem host_Right.envOk : EnvOk Try.prog host_Right.env := envOk_cons host_fields.known (envOk_cons host_register.known (envOk_nil _))
def host_Right.T2000001 : Tm := ⟨fill 0 70 [(1, Sl.ptr (1 : Nat) (nilOf Step))], [{ k := (1 : Nat), t := HoT, vir := false }]⟩
def host_Right.X2000001_normal : Tm := ⟨fill 0 70 [(1, Sl.ptr (1 : Nat) (nilOf Step)), (30, Sl.data Ty.bool)], [{ k := (1 : Nat), t := HoT, vir := false }]⟩
def host_Right.o2000001 {R : Type} (v0 : Int × Int × Int × Int × Int × Int × Unit) (knormal : Bool → (Int × Int × Int × Int × Int × Int × Unit) → Option R) : Option R :=
  bif decide (Prod.fst v0 < (1 : Int)) then knormal true v0 else bif decide (Prod.fst v0 ≥ (32 : Int)) then knormal true v0 else bif Prod.fst v0 == (31 : Int) then bif decide (Prod.fst (Prod.snd (Prod.snd (Prod.snd (Prod.snd (Prod.snd v0))))) < (1 : Int)) then knormal true v0 else knormal (decide (Prod.fst (Prod.snd (Prod.snd (Prod.snd (Prod.snd (Prod.snd v0))))) > (99 : Int))) v0 else knormal false v0
def host_Right.s2000001 {R : Type} (v0 : Int × Int × Int × Int × Int × Int × Unit) (knormal : Bool → (Int × Int × Int × Int × Int × Int × Unit) → Option R) : Option R :=
  knormal (decide (Prod.fst v0 < (1 : Int)) || (decide (Prod.fst v0 ≥ (32 : Int)) || Prod.fst v0 == (31 : Int) && (decide (Prod.fst (Prod.snd (Prod.snd (Prod.snd (Prod.snd (Prod.snd v0))))) < (1 : Int)) || decide (Prod.fst (Prod.snd (Prod.snd (Prod.snd (Prod.snd (Prod.snd v0))))) > (99 : Int))))) v0
theorem host_Right.s2000001_eq {R : Type} (v0 : Int × Int × Int × Int × Int × Int × Unit) (knormal : Bool → (Int × Int × Int × Int × Int × Int × Unit) → Option R) : host_Right.s2000001 v0 knormal = host_Right.o2000001 v0 knormal := by
  unfold host_Right.s2000001 host_Right.o2000001
  (cases hc : decide (Prod.fst v0 < (1 : Int)) with | false => (cases hc : decide (Prod.fst v0 ≥ (32 : Int)) with | false => (cases hc : Prod.fst v0 == (31 : Int) with | false => (first | rfl | simp_all) | true => (cases hc : decide (Prod.fst (Prod.snd (Prod.snd (Prod.snd (Prod.snd (Prod.snd v0))))) < (1 : Int)) with | false => (first | rfl | simp_all) | true => (first | rfl | simp_all))) | true => (first | rfl | simp_all)) | true => (first | rfl | simp_all))
def host_Right.T2000004 : Tm := ⟨fill 0 70 [(1, Sl.ptr (1 : Nat) (nilOf Step)), (3, Sl.data Ty.bool), (4, Sl.data Ty.bool), (5, Sl.data Ty.bool), (6, Sl.data Ty.bool), (7, Sl.data Ty.bool)], [{ k := (1 : Nat), t := HoT, vir := false }]⟩
def host_Right.X2000004_normal : Tm := ⟨fill 0 70 [(2, Sl.data Ty.bool)], []⟩
def host_Right.o2000004 {R : Type} (v0 : Bool) (v1 : Bool) (v2 : Bool) (v3 : Bool) (v4 : Bool) (v5 : Int × Int × Int × Int × Int × Int × Unit) (knormal : Bool → Option R) : Option R :=
  bif host_register (Prod.fst (Prod.snd v5)) v0 then bif host_register (Prod.fst (Prod.snd (Prod.snd v5))) v1 then bif host_register (Prod.fst (Prod.snd (Prod.snd (Prod.snd v5)))) v2 then bif host_register (Prod.fst (Prod.snd (Prod.snd (Prod.snd (Prod.snd v5))))) v3 then bif v4 then knormal true else knormal (Prod.fst (Prod.snd (Prod.snd (Prod.snd (Prod.snd (Prod.snd v5))))) == (0 : Int)) else knormal false else knormal false else knormal false else knormal false
def host_Right.s2000004 {R : Type} (v0 : Bool) (v1 : Bool) (v2 : Bool) (v3 : Bool) (v4 : Bool) (v5 : Int × Int × Int × Int × Int × Int × Unit) (knormal : Bool → Option R) : Option R :=
  knormal (host_register (Prod.fst (Prod.snd v5)) v0 && (host_register (Prod.fst (Prod.snd (Prod.snd v5))) v1 && (host_register (Prod.fst (Prod.snd (Prod.snd (Prod.snd v5)))) v2 && (host_register (Prod.fst (Prod.snd (Prod.snd (Prod.snd (Prod.snd v5))))) v3 && (v4 || Prod.fst (Prod.snd (Prod.snd (Prod.snd (Prod.snd (Prod.snd v5))))) == (0 : Int))))))
theorem host_Right.s2000004_eq {R : Type} (v0 : Bool) (v1 : Bool) (v2 : Bool) (v3 : Bool) (v4 : Bool) (v5 : Int × Int × Int × Int × Int × Int × Unit) (knormal : Bool → Option R) : host_Right.s2000004 v0 v1 v2 v3 v4 v5 knormal = host_Right.o2000004 v0 v1 v2 v3 v4 v5 knormal := by
  unfold host_Right.s2000004 host_Right.o2000004
  (cases hc : host_register (Prod.fst (Prod.snd v5)) v0 with | false => (first | rfl | simp_all) | true => (cases hc : host_register (Prod.fst (Prod.snd (Prod.snd v5))) v1 with | false => (first | rfl | simp_all) | true => (cases hc : host_register (Prod.fst (Prod.snd (Prod.snd (Prod.snd v5)))) v2 with | false => (first | rfl | simp_all) | true => (cases hc : host_register (Prod.fst (Prod.snd (Prod.snd (Prod.snd (Prod.snd v5))))) v3 with | false => (first | rfl | simp_all) | true => (cases hc : v4 with | false => (first | rfl | simp_all) | true => (first | rfl | simp_all))))))
def host_Right.C : Cfg := { rows := [], keep := [(2000001, [1], [1]), (12000001, [1, 30], [1]), (2000004, [1, 3, 4, 5, 6, 7], [1]), (12000004, [2], [])], adopt := [] }
def host_Right.sum2000001 : FrV host_Right.T2000001.fr × StV host_Right.T2000001.st → (Ex → S → Option (List DVal)) → Option (List DVal) := fun ((()), (v0, ())) K => host_Right.s2000001 v0 (fun e0 e1 => K .normal (pack host_Right.X2000001_normal ((e0, ()), (e1, ()))))
def host_Right.sum2000004 : FrV host_Right.T2000004.fr × StV host_Right.T2000004.st → (Ex → S → Option (List DVal)) → Option (List DVal) := fun ((v0, v1, v2, v3, v4, ()), (v5, ())) K => host_Right.s2000004 v0 v1 v2 v3 v4 v5 (fun e0 => K .normal (pack host_Right.X2000004_normal ((e0, ()), (()))))
def host_Right.L : Nat → Option Sum := fun i => if i = 2000001 then some (sumOf host_Right.T2000001 host_Right.sum2000001) else if i = 2000004 then some (sumOf host_Right.T2000004 host_Right.sum2000004) else none
theorem host_Right.x2000001 : ∀ v (K : Ex → S → Option (List DVal)), exec1 Try.prog host_Right.C host_Right.env host_Right.L (spotOf Try.f16 2000001).2.1 (spotOf Try.f16 2000001).2.2 (pack host_Right.T2000001 v) (fun e s' => K e (trim host_Right.C (2000001 + 10000000) s')) = (fun (((()), (v0, ())) : FrV host_Right.T2000001.fr × StV host_Right.T2000001.st) => host_Right.o2000001 v0 (fun e0 e1 => K .normal (pack host_Right.X2000001_normal ((e0, ()), (e1, ()))))) v :=
  fun ((()), (v0, ())) K => by kernel_rfl
theorem host_Right.sum2000001_ok : SpotOk Try.prog host_Right.C host_Right.env host_Right.L (spotOf Try.f16 2000001) := spotOk_of (T := host_Right.T2000001) (q := 2000001) (f := host_Right.sum2000001) (by kernel_rfl) (by kernel_rfl) fun ((()), (v0, ())) K r h => (host_Right.x2000001 _ K).trans ((host_Right.s2000001_eq v0 (fun e0 e1 => K .normal (pack host_Right.X2000001_normal ((e0, ()), (e1, ()))))).symm.trans h)
theorem host_Right.x2000004 : ∀ v (K : Ex → S → Option (List DVal)), exec1 Try.prog host_Right.C host_Right.env host_Right.L (spotOf Try.f16 2000004).2.1 (spotOf Try.f16 2000004).2.2 (pack host_Right.T2000004 v) (fun e s' => K e (trim host_Right.C (2000004 + 10000000) s')) = (fun (((v0, v1, v2, v3, v4, ()), (v5, ())) : FrV host_Right.T2000004.fr × StV host_Right.T2000004.st) => host_Right.o2000004 v0 v1 v2 v3 v4 v5 (fun e0 => K .normal (pack host_Right.X2000004_normal ((e0, ()), (()))))) v :=
  fun ((v0, v1, v2, v3, v4, ()), (v5, ())) K => by kernel_rfl
theorem host_Right.sum2000004_ok : SpotOk Try.prog host_Right.C host_Right.env host_Right.L (spotOf Try.f16 2000004) := spotOk_of (T := host_Right.T2000004) (q := 2000004) (f := host_Right.sum2000004) (by kernel_rfl) (by kernel_rfl) fun ((v0, v1, v2, v3, v4, ()), (v5, ())) K r h => (host_Right.x2000004 _ K).trans ((host_Right.s2000004_eq v0 v1 v2 v3 v4 v5 (fun e0 => K .normal (pack host_Right.X2000004_normal ((e0, ()), (()))))).symm.trans h)
def host_Right.tree {R : Type} (a0 : Int × Int × Int × Int × Int × Int × Unit) (ret : Bool → Option R) : Option R :=
  bif decide (Prod.fst a0 < (1 : Int)) || (decide (Prod.fst a0 ≥ (32 : Int)) || Prod.fst a0 == (31 : Int) && (decide (Prod.fst (Prod.snd (Prod.snd (Prod.snd (Prod.snd (Prod.snd a0))))) < (1 : Int)) || decide (Prod.fst (Prod.snd (Prod.snd (Prod.snd (Prod.snd (Prod.snd a0))))) > (99 : Int)))) then ret false else ret (host_register (Prod.fst (Prod.snd a0)) (Prod.fst (host_fields (Prod.fst a0))) && (host_register (Prod.fst (Prod.snd (Prod.snd a0))) (Prod.fst (Prod.snd (host_fields (Prod.fst a0)))) && (host_register (Prod.fst (Prod.snd (Prod.snd (Prod.snd a0)))) (Prod.fst (Prod.snd (Prod.snd (host_fields (Prod.fst a0))))) && (host_register (Prod.fst (Prod.snd (Prod.snd (Prod.snd (Prod.snd a0))))) (Prod.fst (Prod.snd (Prod.snd (Prod.snd (host_fields (Prod.fst a0)))))) && (Prod.snd (Prod.snd (Prod.snd (Prod.snd (host_fields (Prod.fst a0))))) || Prod.fst (Prod.snd (Prod.snd (Prod.snd (Prod.snd (Prod.snd a0))))) == (0 : Int))))))
theorem host_Right.eq (a0 : Int × Int × Int × Int × Int × Int × Unit) : body Try.prog host_Right.C host_Right.env host_Right.L Try.f16 [⟨HoT, a0⟩] = host_Right.tree a0 (fun r0 => some ([⟨Ty.bool, r0⟩] : List DVal)) := by kernel_rfl
def host_Right (a0 : Int × Int × Int × Int × Int × Int × Unit) : Bool :=
  bif decide (Prod.fst a0 < (1 : Int)) || (decide (Prod.fst a0 ≥ (32 : Int)) || Prod.fst a0 == (31 : Int) && (decide (Prod.fst (Prod.snd (Prod.snd (Prod.snd (Prod.snd (Prod.snd a0))))) < (1 : Int)) || decide (Prod.fst (Prod.snd (Prod.snd (Prod.snd (Prod.snd (Prod.snd a0))))) > (99 : Int)))) then false else host_register (Prod.fst (Prod.snd a0)) (Prod.fst (host_fields (Prod.fst a0))) && (host_register (Prod.fst (Prod.snd (Prod.snd a0))) (Prod.fst (Prod.snd (host_fields (Prod.fst a0)))) && (host_register (Prod.fst (Prod.snd (Prod.snd (Prod.snd a0)))) (Prod.fst (Prod.snd (Prod.snd (host_fields (Prod.fst a0))))) && (host_register (Prod.fst (Prod.snd (Prod.snd (Prod.snd (Prod.snd a0))))) (Prod.fst (Prod.snd (Prod.snd (Prod.snd (host_fields (Prod.fst a0)))))) && (Prod.snd (Prod.snd (Prod.snd (Prod.snd (host_fields (Prod.fst a0))))) || Prod.fst (Prod.snd (Prod.snd (Prod.snd (Prod.snd (Prod.snd a0))))) == (0 : Int)))))
theorem host_Right.nice {R : Type} (a0 : Int × Int × Int × Int × Int × Int × Unit) (ret : Bool → Option R) : host_Right.tree a0 ret = ret (host_Right a0) := by
  unfold host_Right.tree host_Right
  simp only [Bool.apply_cond ret]
def host_Right.ctr : Ctr := ctrOf [HoT] fun x => .ret [⟨Ty.bool, host_Right (x.1)⟩]
theorem host_Right.known : Known Try.prog 16 host_Right.ctr :=
  known_plain host_Right.envOk mixed Try.func16 (by kernel_rfl) (by kernel_rfl) (noLoops (by kernel_rfl)) (bySpot (ids := [2000001, 2000004]) (by kernel_rfl) (by intro q hq; simp only [List.mem_cons, List.not_mem_nil, or_false] at hq; rcases hq with rfl | rfl <;> first | exact host_Right.sum2000001_ok | exact host_Right.sum2000004_ok)) fun x rs h => by
    obtain ⟨a0, u⟩ := x
    cases u
    simp only [Cmd.val_ret] at h
    exact (host_Right.eq a0).trans ((host_Right.nice a0 (fun r0 => some ([⟨Ty.bool, r0⟩] : List DVal))).trans h)

/-! ### ref5_uses -/
def ref5_uses.env : Env := envNil
theorem ref5_uses.envOk : EnvOk Try.prog ref5_uses.env := envOk_nil _
def ref5_uses.T3000004 : Tm := ⟨fill 0 58 [(0, Sl.data (Ty.int IntKind.i64)), (2, Sl.ptr (2 : Nat) (nilOf Step)), (7, Sl.data Ty.bool)], [{ k := (2 : Nat), t := Ty.arr (5 : Nat) Ty.bool, vir := false }]⟩
def ref5_uses.X3000004_normal : Tm := ⟨fill 0 58 [(0, Sl.data (Ty.int IntKind.i64)), (2, Sl.ptr (2 : Nat) (nilOf Step)), (7, Sl.data Ty.bool)], [{ k := (2 : Nat), t := Ty.arr (5 : Nat) Ty.bool, vir := false }]⟩
def ref5_uses.o3000004 {R : Type} (v0 : Int) (v1 : Bool) (v2 : List Bool) (knormal : Int → Bool → (List Bool) → Option R) : Option R :=
  bif v1 then knormal v0 v1 v2 else knormal v0 (v0 == (17 : Int)) v2
def ref5_uses.s3000004 {R : Type} (v0 : Int) (v1 : Bool) (v2 : List Bool) (knormal : Int → Bool → (List Bool) → Option R) : Option R :=
  knormal v0 (bif v1 then v1 else v0 == (17 : Int)) v2
theorem ref5_uses.s3000004_eq {R : Type} (v0 : Int) (v1 : Bool) (v2 : List Bool) (knormal : Int → Bool → (List Bool) → Option R) : ref5_uses.s3000004 v0 v1 v2 knormal = ref5_uses.o3000004 v0 v1 v2 knormal := by
  unfold ref5_uses.s3000004 ref5_uses.o3000004
  (cases hc : v1 with | false => (first | rfl | simp_all) | true => (first | rfl | simp_all))
def ref5_uses.T2000006 : Tm := ⟨fill 0 58 [(0, Sl.data (Ty.int IntKind.i64)), (2, Sl.ptr (2 : Nat) (nilOf Step))], [{ k := (2 : Nat), t := Ty.arr (5 : Nat) Ty.bool, vir := false }]⟩
def ref5_uses.X2000006_normal : Tm := ⟨fill 0 58 [(0, Sl.data (Ty.int IntKind.i64)), (2, Sl.ptr (2 : Nat) (nilOf Step)), (13, Sl.data Ty.bool)], [{ k := (2 : Nat), t := Ty.arr (5 : Nat) Ty.bool, vir := false }]⟩
def ref5_uses.o2000006 {R : Type} (v0 : Int) (v1 : List Bool) (knormal : Int → Bool → (List Bool) → Option R) : Option R :=
  bif decide (v0 ≥ (3 : Int)) then knormal v0 (decide (v0 ≤ (16 : Int))) v1 else knormal v0 false v1
def ref5_uses.s2000006 {R : Type} (v0 : Int) (v1 : List Bool) (knormal : Int → Bool → (List Bool) → Option R) : Option R :=
  knormal v0 (decide (v0 ≥ (3 : Int)) && decide (v0 ≤ (16 : Int))) v1
theorem ref5_uses.s2000006_eq {R : Type} (v0 : Int) (v1 : List Bool) (knormal : Int → Bool → (List Bool) → Option R) : ref5_uses.s2000006 v0 v1 knormal = ref5_uses.o2000006 v0 v1 knormal := by
  unfold ref5_uses.s2000006 ref5_uses.o2000006
  (cases hc : decide (v0 ≥ (3 : Int)) with | false => (first | rfl | simp_all) | true => (first | rfl | simp_all))
def ref5_uses.T3000009 : Tm := ⟨fill 0 58 [(0, Sl.data (Ty.int IntKind.i64)), (2, Sl.ptr (2 : Nat) (nilOf Step)), (13, Sl.data Ty.bool)], [{ k := (2 : Nat), t := Ty.arr (5 : Nat) Ty.bool, vir := false }]⟩
def ref5_uses.X3000009_normal : Tm := ⟨fill 0 58 [(0, Sl.data (Ty.int IntKind.i64)), (2, Sl.ptr (2 : Nat) (nilOf Step)), (13, Sl.data Ty.bool)], [{ k := (2 : Nat), t := Ty.arr (5 : Nat) Ty.bool, vir := false }]⟩
def ref5_uses.o3000009 {R : Type} (v0 : Int) (v1 : Bool) (v2 : List Bool) (knormal : Int → Bool → (List Bool) → Option R) : Option R :=
  bif v1 then knormal v0 v1 v2 else knormal v0 (v0 == (20 : Int)) v2
def ref5_uses.s3000009 {R : Type} (v0 : Int) (v1 : Bool) (v2 : List Bool) (knormal : Int → Bool → (List Bool) → Option R) : Option R :=
  knormal v0 (bif v1 then v1 else v0 == (20 : Int)) v2
theorem ref5_uses.s3000009_eq {R : Type} (v0 : Int) (v1 : Bool) (v2 : List Bool) (knormal : Int → Bool → (List Bool) → Option R) : ref5_uses.s3000009 v0 v1 v2 knormal = ref5_uses.o3000009 v0 v1 v2 knormal := by
  unfold ref5_uses.s3000009 ref5_uses.o3000009
  (cases hc : v1 with | false => (first | rfl | simp_all) | true => (first | rfl | simp_all))
def ref5_uses.T3000008 : Tm := ⟨fill 0 58 [(0, Sl.data (Ty.int IntKind.i64)), (2, Sl.ptr (2 : Nat) (nilOf Step)), (13, Sl.data Ty.bool)], [{ k := (2 : Nat), t := Ty.arr (5 : Nat) Ty.bool, vir := false }]⟩
def ref5_uses.X3000008_normal : Tm := ⟨fill 0 58 [(0, Sl.data (Ty.int IntKind.i64)), (2, Sl.ptr (2 : Nat) (nilOf Step)), (13, Sl.data Ty.bool)], [{ k := (2 : Nat), t := Ty.arr (5 : Nat) Ty.bool, vir := false }]⟩
def ref5_uses.o3000008 {R : Type} (v0 : Int) (v1 : Bool) (v2 : List Bool) (knormal : Int → Bool → (List Bool) → Option R) : Option R :=
  bif v1 then knormal v0 v1 v2 else knormal v0 (bif v0 == (19 : Int) then v0 == (19 : Int) else v0 == (20 : Int)) v2
def ref5_uses.s3000008 {R : Type} (v0 : Int) (v1 : Bool) (v2 : List Bool) (knormal : Int → Bool → (List Bool) → Option R) : Option R :=
  knormal v0 (bif v1 then v1 else bif v0 == (19 : Int) then v0 == (19 : Int) else v0 == (20 : Int)) v2
theorem ref5_uses.s3000008_eq {R : Type} (v0 : Int) (v1 : Bool) (v2 : List Bool) (knormal : Int → Bool → (List Bool) → Option R) : ref5_uses.s3000008 v0 v1 v2 knormal = ref5_uses.o3000008 v0 v1 v2 knormal := by
  unfold ref5_uses.s3000008 ref5_uses.o3000008
  (cases hc : v1 with | false => (first | rfl | simp_all) | true => (first | rfl | simp_all))
def ref5_uses.T3000007 : Tm := ⟨fill 0 58 [(0, Sl.data (Ty.int IntKind.i64)), (2, Sl.ptr (2 : Nat) (nilOf Step)), (13, Sl.data Ty.bool)], [{ k := (2 : Nat), t := Ty.arr (5 : Nat) Ty.bool, vir := false }]⟩
def ref5_uses.X3000007_normal : Tm := ⟨fill 0 58 [(0, Sl.data (Ty.int IntKind.i64)), (2, Sl.ptr (2 : Nat) (nilOf Step)), (13, Sl.data Ty.bool)], [{ k := (2 : Nat), t := Ty.arr (5 : Nat) Ty.bool, vir := false }]⟩
def ref5_uses.o3000007 {R : Type} (v0 : Int) (v1 : Bool) (v2 : List Bool) (knormal : Int → Bool → (List Bool) → Option R) : Option R :=
  bif v1 then knormal v0 v1 v2 else knormal v0 (bif v0 == (18 : Int) then v0 == (18 : Int) else bif v0 == (19 : Int) then v0 == (19 : Int) else v0 == (20 : Int)) v2
def ref5_uses.s3000007 {R : Type} (v0 : Int) (v1 : Bool) (v2 : List Bool) (knormal : Int → Bool → (List Bool) → Option R) : Option R :=
  knormal v0 (bif v1 then v1 else bif v0 == (18 : Int) then v0 == (18 : Int) else bif v0 == (19 : Int) then v0 == (19 : Int) else v0 == (20 : Int)) v2
theorem ref5_uses.s3000007_eq {R : Type} (v0 : Int) (v1 : Bool) (v2 : List Bool) (knormal : Int → Bool → (List Bool) → Option R) : ref5_uses.s3000007 v0 v1 v2 knormal = ref5_uses.o3000007 v0 v1 v2 knormal := by
  unfold ref5_uses.s3000007 ref5_uses.o3000007
  (cases hc : v1 with | false => (first | rfl | simp_all) | true => (first | rfl | simp_all))
def ref5_uses.T3000015 : Tm := ⟨fill 0 58 [(0, Sl.data (Ty.int IntKind.i64)), (2, Sl.ptr (2 : Nat) (nilOf Step)), (31, Sl.data Ty.bool)], [{ k := (2 : Nat), t := Ty.arr (5 : Nat) Ty.bool, vir := false }]⟩
def ref5_uses.X3000015_normal : Tm := ⟨fill 0 58 [(0, Sl.data (Ty.int IntKind.i64)), (2, Sl.ptr (2 : Nat) (nilOf Step)), (31, Sl.data Ty.bool)], [{ k := (2 : Nat), t := Ty.arr (5 : Nat) Ty.bool, vir := false }]⟩
def ref5_uses.o3000015 {R : Type} (v0 : Int) (v1 : Bool) (v2 : List Bool) (knormal : Int → Bool → (List Bool) → Option R) : Option R :=
  bif v1 then knormal v0 v1 v2 else knormal v0 (v0 == (24 : Int)) v2
def ref5_uses.s3000015 {R : Type} (v0 : Int) (v1 : Bool) (v2 : List Bool) (knormal : Int → Bool → (List Bool) → Option R) : Option R :=
  knormal v0 (bif v1 then v1 else v0 == (24 : Int)) v2
theorem ref5_uses.s3000015_eq {R : Type} (v0 : Int) (v1 : Bool) (v2 : List Bool) (knormal : Int → Bool → (List Bool) → Option R) : ref5_uses.s3000015 v0 v1 v2 knormal = ref5_uses.o3000015 v0 v1 v2 knormal := by
  unfold ref5_uses.s3000015 ref5_uses.o3000015
  (cases hc : v1 with | false => (first | rfl | simp_all) | true => (first | rfl | simp_all))
def ref5_uses.T3000014 : Tm := ⟨fill 0 58 [(0, Sl.data (Ty.int IntKind.i64)), (2, Sl.ptr (2 : Nat) (nilOf Step)), (31, Sl.data Ty.bool)], [{ k := (2 : Nat), t := Ty.arr (5 : Nat) Ty.bool, vir := false }]⟩
def ref5_uses.X3000014_normal : Tm := ⟨fill 0 58 [(0, Sl.data (Ty.int IntKind.i64)), (2, Sl.ptr (2 : Nat) (nilOf Step)), (31, Sl.data Ty.bool)], [{ k := (2 : Nat), t := Ty.arr (5 : Nat) Ty.bool, vir := false }]⟩
def ref5_uses.o3000014 {R : Type} (v0 : Int) (v1 : Bool) (v2 : List Bool) (knormal : Int → Bool → (List Bool) → Option R) : Option R :=
  bif v1 then knormal v0 v1 v2 else knormal v0 (bif v0 == (23 : Int) then v0 == (23 : Int) else v0 == (24 : Int)) v2
def ref5_uses.s3000014 {R : Type} (v0 : Int) (v1 : Bool) (v2 : List Bool) (knormal : Int → Bool → (List Bool) → Option R) : Option R :=
  knormal v0 (bif v1 then v1 else bif v0 == (23 : Int) then v0 == (23 : Int) else v0 == (24 : Int)) v2
theorem ref5_uses.s3000014_eq {R : Type} (v0 : Int) (v1 : Bool) (v2 : List Bool) (knormal : Int → Bool → (List Bool) → Option R) : ref5_uses.s3000014 v0 v1 v2 knormal = ref5_uses.o3000014 v0 v1 v2 knormal := by
  unfold ref5_uses.s3000014 ref5_uses.o3000014
  (cases hc : v1 with | false => (first | rfl | simp_all) | true => (first | rfl | simp_all))
def ref5_uses.T3000019 : Tm := ⟨fill 0 58 [(0, Sl.data (Ty.int IntKind.i64)), (2, Sl.ptr (2 : Nat) (nilOf Step)), (39, Sl.data Ty.bool)], [{ k := (2 : Nat), t := Ty.arr (5 : Nat) Ty.bool, vir := false }]⟩
def ref5_uses.X3000019_normal : Tm := ⟨fill 0 58 [(0, Sl.data (Ty.int IntKind.i64)), (2, Sl.ptr (2 : Nat) (nilOf Step)), (39, Sl.data Ty.bool)], [{ k := (2 : Nat), t := Ty.arr (5 : Nat) Ty.bool, vir := false }]⟩
def ref5_uses.o3000019 {R : Type} (v0 : Int) (v1 : Bool) (v2 : List Bool) (knormal : Int → Bool → (List Bool) → Option R) : Option R :=
  bif v1 then knormal v0 v1 v2 else knormal v0 (v0 == (27 : Int)) v2
def ref5_uses.s3000019 {R : Type} (v0 : Int) (v1 : Bool) (v2 : List Bool) (knormal : Int → Bool → (List Bool) → Option R) : Option R :=
  knormal v0 (bif v1 then v1 else v0 == (27 : Int)) v2
theorem ref5_uses.s3000019_eq {R : Type} (v0 : Int) (v1 : Bool) (v2 : List Bool) (knormal : Int → Bool → (List Bool) → Option R) : ref5_uses.s3000019 v0 v1 v2 knormal = ref5_uses.o3000019 v0 v1 v2 knormal := by
  unfold ref5_uses.s3000019 ref5_uses.o3000019
  (cases hc : v1 with | false => (first | rfl | simp_all) | true => (first | rfl | simp_all))
def ref5_uses.T3000018 : Tm := ⟨fill 0 58 [(0, Sl.data (Ty.int IntKind.i64)), (2, Sl.ptr (2 : Nat) (nilOf Step)), (39, Sl.data Ty.bool)], [{ k := (2 : Nat), t := Ty.arr (5 : Nat) Ty.bool, vir := false }]⟩
def ref5_uses.X3000018_normal : Tm := ⟨fill 0 58 [(0, Sl.data (Ty.int IntKind.i64)), (2, Sl.ptr (2 : Nat) (nilOf Step)), (39, Sl.data Ty.bool)], [{ k := (2 : Nat), t := Ty.arr (5 : Nat) Ty.bool, vir := false }]⟩
def ref5_uses.o3000018 {R : Type} (v0 : Int) (v1 : Bool) (v2 : List Bool) (knormal : Int → Bool → (List Bool) → Option R) : Option R :=
  bif v1 then knormal v0 v1 v2 else knormal v0 (bif v0 == (26 : Int) then v0 == (26 : Int) else v0 == (27 : Int)) v2
def ref5_uses.s3000018 {R : Type} (v0 : Int) (v1 : Bool) (v2 : List Bool) (knormal : Int → Bool → (List Bool) → Option R) : Option R :=
  knormal v0 (bif v1 then v1 else bif v0 == (26 : Int) then v0 == (26 : Int) else v0 == (27 : Int)) v2
theorem ref5_uses.s3000018_eq {R : Type} (v0 : Int) (v1 : Bool) (v2 : List Bool) (knormal : Int → Bool → (List Bool) → Option R) : ref5_uses.s3000018 v0 v1 v2 knormal = ref5_uses.o3000018 v0 v1 v2 knormal := by
  unfold ref5_uses.s3000018 ref5_uses.o3000018
  (cases hc : v1 with | false => (first | rfl | simp_all) | true => (first | rfl | simp_all))
def ref5_uses.T3000022 : Tm := ⟨fill 0 58 [(0, Sl.data (Ty.int IntKind.i64)), (2, Sl.ptr (2 : Nat) (nilOf Step)), (47, Sl.data Ty.bool)], [{ k := (2 : Nat), t := Ty.arr (5 : Nat) Ty.bool, vir := false }]⟩
def ref5_uses.X3000022_normal : Tm := ⟨fill 0 58 [(0, Sl.data (Ty.int IntKind.i64)), (2, Sl.ptr (2 : Nat) (nilOf Step)), (47, Sl.data Ty.bool)], [{ k := (2 : Nat), t := Ty.arr (5 : Nat) Ty.bool, vir := false }]⟩
def ref5_uses.o3000022 {R : Type} (v0 : Int) (v1 : Bool) (v2 : List Bool) (knormal : Int → Bool → (List Bool) → Option R) : Option R :=
  bif v1 then knormal v0 v1 v2 else knormal v0 (v0 == (31 : Int)) v2
def ref5_uses.s3000022 {R : Type} (v0 : Int) (v1 : Bool) (v2 : List Bool) (knormal : Int → Bool → (List Bool) → Option R) : Option R :=
  knormal v0 (bif v1 then v1 else v0 == (31 : Int)) v2
theorem ref5_uses.s3000022_eq {R : Type} (v0 : Int) (v1 : Bool) (v2 : List Bool) (knormal : Int → Bool → (List Bool) → Option R) : ref5_uses.s3000022 v0 v1 v2 knormal = ref5_uses.o3000022 v0 v1 v2 knormal := by
  unfold ref5_uses.s3000022 ref5_uses.o3000022
  (cases hc : v1 with | false => (first | rfl | simp_all) | true => (first | rfl | simp_all))
def ref5_uses.C : Cfg := { rows := [], keep := [(3000004, [0, 2, 7], [2]), (13000004, [0, 2, 7], [2]), (2000006, [0, 2], [2]), (12000006, [0, 2, 13], [2]), (3000009, [0, 2, 13], [2]), (13000009, [0, 2, 13], [2]), (3000008, [0, 2, 13], [2]), (13000008, [0, 2, 13], [2]), (3000007, [0, 2, 13], [2]), (13000007, [0, 2, 13], [2]), (3000015, [0, 2, 31], [2]), (13000015, [0, 2, 31], [2]), (3000014, [0, 2, 31], [2]), (13000014, [0, 2, 31], [2]), (3000019, [0, 2, 39], [2]), (13000019, [0, 2, 39], [2]), (3000018, [0, 2, 39], [2]), (13000018, [0, 2, 39], [2]), (3000022, [0, 2, 47], [2]), (13000022, [0, 2, 47], [2])], adopt := [] }
def ref5_uses.sum3000004 : FrV ref5_uses.T3000004.fr × StV ref5_uses.T3000004.st → (Ex → S → Option (List DVal)) → Option (List DVal) := fun ((v0, v1, ()), (v2, ())) K => ref5_uses.s3000004 v0 v1 v2 (fun e0 e1 e2 => K .normal (pack ref5_uses.X3000004_normal ((e0, e1, ()), (e2, ()))))
def ref5_uses.sum2000006 : FrV ref5_uses.T2000006.fr × StV ref5_uses.T2000006.st → (Ex → S → Option (List DVal)) → Option (List DVal) := fun ((v0, ()), (v1, ())) K => ref5_uses.s2000006 v0 v1 (fun e0 e1 e2 => K .normal (pack ref5_uses.X2000006_normal ((e0, e1, ()), (e2, ()))))
def ref5_uses.sum3000009 : FrV ref5_uses.T3000009.fr × StV ref5_uses.T3000009.st → (Ex → S → Option (List DVal)) → Option (List DVal) := fun ((v0, v1, ()), (v2, ())) K => ref5_uses.s3000009 v0 v1 v2 (fun e0 e1 e2 => K .normal (pack ref5_uses.X3000009_normal ((e0, e1, ()), (e2, ()))))
def ref5_uses.sum3000008 : FrV ref5_uses.T3000008.fr × StV ref5_uses.T3000008.st → (Ex → S → Option (List DVal)) → Option (List DVal) := fun ((v0, v1, ()), (v2, ())) K => ref5_uses.s3000008 v0 v1 v2 (fun e0 e1 e2 => K .normal (pack ref5_uses.X3000008_normal ((e0, e1, ()), (e2, ()))))
def ref5_uses.sum3000007 : FrV ref5_uses.T3000007.fr × StV ref5_uses.T3000007.st → (Ex → S → Option (List DVal)) → Option (List DVal) := fun ((v0, v1, ()), (v2, ())) K => ref5_uses.s3000007 v0 v1 v2 (fun e0 e1 e2 => K .normal (pack ref5_uses.X3000007_normal ((e0, e1, ()), (e2, ()))))
def ref5_uses.sum3000015 : FrV ref5_uses.T3000015.fr × StV ref5_uses.T3000015.st → (Ex → S → Option (List DVal)) → Option (List DVal) := fun ((v0, v1, ()), (v2, ())) K => ref5_uses.s3000015 v0 v1 v2 (fun e0 e1 e2 => K .normal (pack ref5_uses.X3000015_normal ((e0, e1, ()), (e2, ()))))
def ref5_uses.sum3000014 : FrV ref5_uses.T3000014.fr × StV ref5_uses.T3000014.st → (Ex → S → Option (List DVal)) → Option (List DVal) := fun ((v0, v1, ()), (v2, ())) K => ref5_uses.s3000014 v0 v1 v2 (fun e0 e1 e2 => K .normal (pack ref5_uses.X3000014_normal ((e0, e1, ()), (e2, ()))))
def ref5_uses.sum3000019 : FrV ref5_uses.T3000019.fr × StV ref5_uses.T3000019.st → (Ex → S → Option (List DVal)) → Option (List DVal) := fun ((v0, v1, ()), (v2, ())) K => ref5_uses.s3000019 v0 v1 v2 (fun e0 e1 e2 => K .normal (pack ref5_uses.X3000019_normal ((e0, e1, ()), (e2, ()))))
def ref5_uses.sum3000018 : FrV ref5_uses.T3000018.fr × StV ref5_uses.T3000018.st → (Ex → S → Option (List DVal)) → Option (List DVal) := fun ((v0, v1, ()), (v2, ())) K => ref5_uses.s3000018 v0 v1 v2 (fun e0 e1 e2 => K .normal (pack ref5_uses.X3000018_normal ((e0, e1, ()), (e2, ()))))
def ref5_uses.sum3000022 : FrV ref5_uses.T3000022.fr × StV ref5_uses.T3000022.st → (Ex → S → Option (List DVal)) → Option (List DVal) := fun ((v0, v1, ()), (v2, ())) K => ref5_uses.s3000022 v0 v1 v2 (fun e0 e1 e2 => K .normal (pack ref5_uses.X3000022_normal ((e0, e1, ()), (e2, ()))))
def ref5_uses.L : Nat → Option Sum := fun i => if i = 3000004 then some (sumOf ref5_uses.T3000004 ref5_uses.sum3000004) else if i = 2000006 then some (sumOf ref5_uses.T2000006 ref5_uses.sum2000006) else if i = 3000009 then some (sumOf ref5_uses.T3000009 ref5_uses.sum3000009) else if i = 3000008 then some (sumOf ref5_uses.T3000008 ref5_uses.sum3000008) else if i = 3000007 then some (sumOf ref5_uses.T3000007 ref5_uses.sum3000007) else if i = 3000015 then some (sumOf ref5_uses.T3000015 ref5_uses.sum3000015) else if i = 3000014 then some (sumOf ref5_uses.T3000014 ref5_uses.sum3000014) else if i = 3000019 then some (sumOf ref5_uses.T3000019 ref5_uses.sum3000019) else if i = 3000018 then some (sumOf ref5_uses.T3000018 ref5_uses.sum3000018) else if i = 3000022 then some (sumOf ref5_uses.T3000022 ref5_uses.sum3000022) else none
theorem ref5_uses.x3000004 : ∀ v (K : Ex → S → Option (List DVal)), exec1 Try.prog ref5_uses.C ref5_uses.env ref5_uses.L (spotOf Try.f61 3000004).2.1 (spotOf Try.f61 3000004).2.2 (pack ref5_uses.T3000004 v) (fun e s' => K e (trim ref5_uses.C (3000004 + 10000000) s')) = (fun (((v0, v1, ()), (v2, ())) : FrV ref5_uses.T3000004.fr × StV ref5_uses.T3000004.st) => ref5_uses.o3000004 v0 v1 v2 (fun e0 e1 e2 => K .normal (pack ref5_uses.X3000004_normal ((e0, e1, ()), (e2, ()))))) v :=
  fun ((v0, v1, ()), (v2, ())) K => by kernel_rfl
theorem ref5_uses.sum3000004_ok : SpotOk Try.prog ref5_uses.C ref5_uses.env ref5_uses.L (spotOf Try.f61 3000004) := spotOk_of (T := ref5_uses.T3000004) (q := 3000004) (f := ref5_uses.sum3000004) (by kernel_rfl) (by kernel_rfl) fun ((v0, v1, ()), (v2, ())) K r h => (ref5_uses.x3000004 _ K).trans ((ref5_uses.s3000004_eq v0 v1 v2 (fun e0 e1 e2 => K .normal (pack ref5_uses.X3000004_normal ((e0, e1, ()), (e2, ()))))).symm.trans h)
theorem ref5_uses.x2000006 : ∀ v (K : Ex → S → Option (List DVal)), exec1 Try.prog ref5_uses.C ref5_uses.env ref5_uses.L (spotOf Try.f61 2000006).2.1 (spotOf Try.f61 2000006).2.2 (pack ref5_uses.T2000006 v) (fun e s' => K e (trim ref5_uses.C (2000006 + 10000000) s')) = (fun (((v0, ()), (v1, ())) : FrV ref5_uses.T2000006.fr × StV ref5_uses.T2000006.st) => ref5_uses.o2000006 v0 v1 (fun e0 e1 e2 => K .normal (pack ref5_uses.X2000006_normal ((e0, e1, ()), (e2, ()))))) v :=
  fun ((v0, ()), (v1, ())) K => by kernel_rfl
theorem ref5_uses.sum2000006_ok : SpotOk Try.prog ref5_uses.C ref5_uses.env ref5_uses.L (spotOf Try.f61 2000006) := spotOk_of (T := ref5_uses.T2000006) (q := 2000006) (f := ref5_uses.sum2000006) (by kernel_rfl) (by kernel_rfl) fun ((v0, ()), (v1, ())) K r h => (ref5_uses.x2000006 _ K).trans ((ref5_uses.s2000006_eq v0 v1 (fun e0 e1 e2 => K .normal (pack ref5_uses.X2000006_normal ((e0, e1, ()), (e2, ()))))).symm.trans h)
theorem ref5_uses.x3000009 : ∀ v (K : Ex → S → Option (List DVal)), exec1 Try.prog ref5_uses.C ref5_uses.env ref5_uses.L (spotOf Try.f61 3000009).2.1 (spotOf Try.f61 3000009).2.2 (pack ref5_uses.T3000009 v) (fun e s' => K e (trim ref5_uses.C (3000009 + 10000000) s')) = (fun (((v0, v1, ()), (v2, ())) : FrV ref5_uses.T3000009.fr × StV ref5_uses.T3000009.st) => ref5_uses.o3000009 v0 v1 v2 (fun e0 e1 e2 => K .normal (pack ref5_uses.X3000009_normal ((e0, e1, ()), (e2, ()))))) v :=
  fun ((v0, v1, ()), (v2, ())) K => by kernel_rfl
theorem ref5_uses.sum3000009_ok : SpotOk Try.prog ref5_uses.C ref5_uses.env ref5_uses.L (spotOf Try.f61 3000009) := spotOk_of (T := ref5_uses.T3000009) (q := 3000009) (f := ref5_uses.sum3000009) (by kernel_rfl) (by kernel_rfl) fun ((v0, v1, ()), (v2, ())) K r h => (ref5_uses.x3000009 _ K).trans ((ref5_uses.s3000009_eq v0 v1 v2 (fun e0 e1 e2 => K .normal (pack ref5_uses.X3000009_normal ((e0, e1, ()), (e2, ()))))).symm.trans h)
theorem ref5_uses.x3000008 : ∀ v (K : Ex → S → Option (List DVal)), exec1 Try.prog ref5_uses.C ref5_uses.env ref5_uses.L (spotOf Try.f61 3000008).2.1 (spotOf Try.f61 3000008).2.2 (pack ref5_uses.T3000008 v) (fun e s' => K e (trim ref5_uses.C (3000008 + 10000000) s')) = (fun (((v0, v1, ()), (v2, ())) : FrV ref5_uses.T3000008.fr × StV ref5_uses.T3000008.st) => ref5_uses.o3000008 v0 v1 v2 (fun e0 e1 e2 => K .normal (pack ref5_uses.X3000008_normal ((e0, e1, ()), (e2, ()))))) v :=
  fun ((v0, v1, ()), (v2, ())) K => by kernel_rfl
theorem ref5_uses.sum3000008_ok : SpotOk Try.prog ref5_uses.C ref5_uses.env ref5_uses.L (spotOf Try.f61 3000008) := spotOk_of (T := ref5_uses.T3000008) (q := 3000008) (f := ref5_uses.sum3000008) (by kernel_rfl) (by kernel_rfl) fun ((v0, v1, ()), (v2, ())) K r h => (ref5_uses.x3000008 _ K).trans ((ref5_uses.s3000008_eq v0 v1 v2 (fun e0 e1 e2 => K .normal (pack ref5_uses.X3000008_normal ((e0, e1, ()), (e2, ()))))).symm.trans h)
theorem ref5_uses.x3000007 : ∀ v (K : Ex → S → Option (List DVal)), exec1 Try.prog ref5_uses.C ref5_uses.env ref5_uses.L (spotOf Try.f61 3000007).2.1 (spotOf Try.f61 3000007).2.2 (pack ref5_uses.T3000007 v) (fun e s' => K e (trim ref5_uses.C (3000007 + 10000000) s')) = (fun (((v0, v1, ()), (v2, ())) : FrV ref5_uses.T3000007.fr × StV ref5_uses.T3000007.st) => ref5_uses.o3000007 v0 v1 v2 (fun e0 e1 e2 => K .normal (pack ref5_uses.X3000007_normal ((e0, e1, ()), (e2, ()))))) v :=
  fun ((v0, v1, ()), (v2, ())) K => by kernel_rfl
theorem ref5_uses.sum3000007_ok : SpotOk Try.prog ref5_uses.C ref5_uses.env ref5_uses.L (spotOf Try.f61 3000007) := spotOk_of (T := ref5_uses.T3000007) (q := 3000007) (f := ref5_uses.sum3000007) (by kernel_rfl) (by kernel_rfl) fun ((v0, v1, ()), (v2, ())) K r h => (ref5_uses.x3000007 _ K).trans ((ref5_uses.s3000007_eq v0 v1 v2 (fun e0 e1 e2 => K .normal (pack ref5_uses.X3000007_normal ((e0, e1, ()), (e2, ()))))).symm.trans h)
theorem ref5_uses.x3000015 : ∀ v (K : Ex → S → Option (List DVal)), exec1 Try.prog ref5_uses.C ref5_uses.env ref5_uses.L (spotOf Try.f61 3000015).2.1 (spotOf Try.f61 3000015).2.2 (pack ref5_uses.T3000015 v) (fun e s' => K e (trim ref5_uses.C (3000015 + 10000000) s')) = (fun (((v0, v1, ()), (v2, ())) : FrV ref5_uses.T3000015.fr × StV ref5_uses.T3000015.st) => ref5_uses.o3000015 v0 v1 v2 (fun e0 e1 e2 => K .normal (pack ref5_uses.X3000015_normal ((e0, e1, ()), (e2, ()))))) v :=
  fun ((v0, v1, ()), (v2, ())) K => by kernel_rfl
theorem ref5_uses.sum3000015_ok : SpotOk Try.prog ref5_uses.C ref5_uses.env ref5_uses.L (spotOf Try.f61 3000015) := spotOk_of (T := ref5_uses.T3000015) (q := 3000015) (f := ref5_uses.sum3000015) (by kernel_rfl) (by kernel_rfl) fun ((v0, v1, ()), (v2, ())) K r h => (ref5_uses.x3000015 _ K).trans ((ref5_uses.s3000015_eq v0 v1 v2 (fun e0 e1 e2 => K .normal (pack ref5_uses.X3000015_normal ((e0, e1, ()), (e2, ()))))).symm.trans h)
theorem ref5_uses.x3000014 : ∀ v (K : Ex → S → Option (List DVal)), exec1 Try.prog ref5_uses.C ref5_uses.env ref5_uses.L (spotOf Try.f61 3000014).2.1 (spotOf Try.f61 3000014).2.2 (pack ref5_uses.T3000014 v) (fun e s' => K e (trim ref5_uses.C (3000014 + 10000000) s')) = (fun (((v0, v1, ()), (v2, ())) : FrV ref5_uses.T3000014.fr × StV ref5_uses.T3000014.st) => ref5_uses.o3000014 v0 v1 v2 (fun e0 e1 e2 => K .normal (pack ref5_uses.X3000014_normal ((e0, e1, ()), (e2, ()))))) v :=
  fun ((v0, v1, ()), (v2, ())) K => by kernel_rfl
theorem ref5_uses.sum3000014_ok : SpotOk Try.prog ref5_uses.C ref5_uses.env ref5_uses.L (spotOf Try.f61 3000014) := spotOk_of (T := ref5_uses.T3000014) (q := 3000014) (f := ref5_uses.sum3000014) (by kernel_rfl) (by kernel_rfl) fun ((v0, v1, ()), (v2, ())) K r h => (ref5_uses.x3000014 _ K).trans ((ref5_uses.s3000014_eq v0 v1 v2 (fun e0 e1 e2 => K .normal (pack ref5_uses.X3000014_normal ((e0, e1, ()), (e2, ()))))).symm.trans h)
theorem ref5_uses.x3000019 : ∀ v (K : Ex → S → Option (List DVal)), exec1 Try.prog ref5_uses.C ref5_uses.env ref5_uses.L (spotOf Try.f61 3000019).2.1 (spotOf Try.f61 3000019).2.2 (pack ref5_uses.T3000019 v) (fun e s' => K e (trim ref5_uses.C (3000019 + 10000000) s')) = (fun (((v0, v1, ()), (v2, ())) : FrV ref5_uses.T3000019.fr × StV ref5_uses.T3000019.st) => ref5_uses.o3000019 v0 v1 v2 (fun e0 e1 e2 => K .normal (pack ref5_uses.X3000019_normal ((e0, e1, ()), (e2, ()))))) v :=
  fun ((v0, v1, ()), (v2, ())) K => by kernel_rfl
theorem ref5_uses.sum3000019_ok : SpotOk Try.prog ref5_uses.C ref5_uses.env ref5_uses.L (spotOf Try.f61 3000019) := spotOk_of (T := ref5_uses.T3000019) (q := 3000019) (f := ref5_uses.sum3000019) (by kernel_rfl) (by kernel_rfl) fun ((v0, v1, ()), (v2, ())) K r h => (ref5_uses.x3000019 _ K).trans ((ref5_uses.s3000019_eq v0 v1 v2 (fun e0 e1 e2 => K .normal (pack ref5_uses.X3000019_normal ((e0, e1, ()), (e2, ()))))).symm.trans h)
theorem ref5_uses.x3000018 : ∀ v (K : Ex → S → Option (List DVal)), exec1 Try.prog ref5_uses.C ref5_uses.env ref5_uses.L (spotOf Try.f61 3000018).2.1 (spotOf Try.f61 3000018).2.2 (pack ref5_uses.T3000018 v) (fun e s' => K e (trim ref5_uses.C (3000018 + 10000000) s')) = (fun (((v0, v1, ()), (v2, ())) : FrV ref5_uses.T3000018.fr × StV ref5_uses.T3000018.st) => ref5_uses.o3000018 v0 v1 v2 (fun e0 e1 e2 => K .normal (pack ref5_uses.X3000018_normal ((e0, e1, ()), (e2, ()))))) v :=
  fun ((v0, v1, ()), (v2, ())) K => by kernel_rfl
theorem ref5_uses.sum3000018_ok : SpotOk Try.prog ref5_uses.C ref5_uses.env ref5_uses.L (spotOf Try.f61 3000018) := spotOk_of (T := ref5_uses.T3000018) (q := 3000018) (f := ref5_uses.sum3000018) (by kernel_rfl) (by kernel_rfl) fun ((v0, v1, ()), (v2, ())) K r h => (ref5_uses.x3000018 _ K).trans ((ref5_uses.s3000018_eq v0 v1 v2 (fun e0 e1 e2 => K .normal (pack ref5_uses.X3000018_normal ((e0, e1, ()), (e2, ()))))).symm.trans h)
theorem ref5_uses.x3000022 : ∀ v (K : Ex → S → Option (List DVal)), exec1 Try.prog ref5_uses.C ref5_uses.env ref5_uses.L (spotOf Try.f61 3000022).2.1 (spotOf Try.f61 3000022).2.2 (pack ref5_uses.T3000022 v) (fun e s' => K e (trim ref5_uses.C (3000022 + 10000000) s')) = (fun (((v0, v1, ()), (v2, ())) : FrV ref5_uses.T3000022.fr × StV ref5_uses.T3000022.st) => ref5_uses.o3000022 v0 v1 v2 (fun e0 e1 e2 => K .normal (pack ref5_uses.X3000022_normal ((e0, e1, ()), (e2, ()))))) v :=
  fun ((v0, v1, ()), (v2, ())) K => by kernel_rfl
theorem ref5_uses.sum3000022_ok : SpotOk Try.prog ref5_uses.C ref5_uses.env ref5_uses.L (spotOf Try.f61 3000022) := spotOk_of (T := ref5_uses.T3000022) (q := 3000022) (f := ref5_uses.sum3000022) (by kernel_rfl) (by kernel_rfl) fun ((v0, v1, ()), (v2, ())) K r h => (ref5_uses.x3000022 _ K).trans ((ref5_uses.s3000022_eq v0 v1 v2 (fun e0 e1 e2 => K .normal (pack ref5_uses.X3000022_normal ((e0, e1, ()), (e2, ()))))).symm.trans h)
def ref5_uses.tree {R : Type} (a0 : Int) (ret : (List Bool) → Option R) : Option R :=
  bif a0 == (1 : Int) then ret [true, false, false, false, true] else bif bif a0 == (2 : Int) then a0 == (2 : Int) else a0 == (17 : Int) then ret [true, true, false, false, false] else bif bif decide (a0 ≥ (3 : Int)) && decide (a0 ≤ (16 : Int)) then decide (a0 ≥ (3 : Int)) && decide (a0 ≤ (16 : Int)) else bif a0 == (18 : Int) then a0 == (18 : Int) else bif a0 == (19 : Int) then a0 == (19 : Int) else a0 == (20 : Int) then ret [true, true, true, false, false] else bif a0 == (21 : Int) then ret [true, true, true, true, false] else bif bif a0 == (22 : Int) then a0 == (22 : Int) else bif a0 == (23 : Int) then a0 == (23 : Int) else a0 == (24 : Int) then ret [true, true, false, false, true] else bif bif a0 == (25 : Int) then a0 == (25 : Int) else bif a0 == (26 : Int) then a0 == (26 : Int) else a0 == (27 : Int) then ret [false, true, true, false, true] else bif bif a0 == (28 : Int) then a0 == (28 : Int) else a0 == (31 : Int) then ret [false, false, false, false, true] else bif a0 == (29 : Int) then ret [false, true, false, false, true] else ret [false, false, false, false, false]
theorem ref5_uses.eq (a0 : Int) : body Try.prog ref5_uses.C ref5_uses.env ref5_uses.L Try.f61 [⟨Ty.int IntKind.i64, a0⟩] = ref5_uses.tree a0 (fun r0 => some ([⟨Ty.arr (5 : Nat) Ty.bool, r0⟩] : List DVal)) := by kernel_rfl
def ref5_uses (a0 : Int) : (List Bool) :=
  bif a0 == (1 : Int) then [true, false, false, false, true] else bif bif a0 == (2 : Int) then a0 == (2 : Int) else a0 == (17 : Int) then [true, true, false, false, false] else bif bif decide (a0 ≥ (3 : Int)) && decide (a0 ≤ (16 : Int)) then decide (a0 ≥ (3 : Int)) && decide (a0 ≤ (16 : Int)) else bif a0 == (18 : Int) then a0 == (18 : Int) else bif a0 == (19 : Int) then a0 == (19 : Int) else a0 == (20 : Int) then [true, true, true, false, false] else bif a0 == (21 : Int) then [true, true, true, true, false] else bif bif a0 == (22 : Int) then a0 == (22 : Int) else bif a0 == (23 : Int) then a0 == (23 : Int) else a0 == (24 : Int) then [true, true, false, false, true] else bif bif a0 == (25 : Int) then a0 == (25 : Int) else bif a0 == (26 : Int) then a0 == (26 : Int) else a0 == (27 : Int) then [false, true, true, false, true] else bif bif a0 == (28 : Int) then a0 == (28 : Int) else a0 == (31 : Int) then [false, false, false, false, true] else bif a0 == (29 : Int) then [false, true, false, false, true] else [false, false, false, false, false]
theorem ref5_uses.nice {R : Type} (a0 : Int) (ret : (List Bool) → Option R) : ref5_uses.tree a0 ret = ret (ref5_uses a0) := by
  unfold ref5_uses.tree ref5_uses
  simp only [Bool.apply_cond ret]
def ref5_uses.ctr : Ctr := ctrOf [Ty.int IntKind.i64] fun x => .ret [⟨Ty.arr (5 : Nat) Ty.bool, ref5_uses (x.1)⟩]
theorem ref5_uses.known : Known Try.prog 61 ref5_uses.ctr :=
  known_plain ref5_uses.envOk mixed Try.func61 (by kernel_rfl) (by kernel_rfl) (noLoops (by kernel_rfl)) (bySpot (ids := [3000004, 2000006, 3000009, 3000008, 3000007, 3000015, 3000014, 3000019, 3000018, 3000022]) (by kernel_rfl) (by intro q hq; simp only [List.mem_cons, List.not_mem_nil, or_false] at hq; rcases hq with rfl | rfl | rfl | rfl | rfl | rfl | rfl | rfl | rfl | rfl <;> first | exact ref5_uses.sum3000004_ok | exact ref5_uses.sum2000006_ok | exact ref5_uses.sum3000009_ok | exact ref5_uses.sum3000008_ok | exact ref5_uses.sum3000007_ok | exact ref5_uses.sum3000015_ok | exact ref5_uses.sum3000014_ok | exact ref5_uses.sum3000019_ok | exact ref5_uses.sum3000018_ok | exact ref5_uses.sum3000022_ok)) fun x rs h => by
    obtain ⟨a0, u⟩ := x
    cases u
    simp only [Cmd.val_ret] at h
    exact (ref5_uses.eq a0).trans ((ref5_uses.nice a0 (fun r0 => some ([⟨Ty.arr (5 : Nat) Ty.bool, r0⟩] : List DVal))).trans h)

/-! ### ref5_Right -/
def ref5_Right.env : Env := envCons 61 ref5_uses.ctr <| envNil
theorem ref5_Right.envOk : EnvOk Try.prog ref5_Right.env := envOk_cons ref5_uses.known (envOk_nil _)
def ref5_Right.T2000001 : Tm := ⟨fill 0 73 [(1, Sl.ptr (1 : Nat) (nilOf Step))], [{ k := (1 : Nat), t := HoT, vir := false }]⟩
def ref5_Right.X2000001_normal : Tm := ⟨fill 0 73 [(1, Sl.ptr (1 : Nat) (nilOf Step)), (13, Sl.data Ty.bool)], [{ k := (1 : Nat), t := HoT, vir := false }]⟩
def ref5_Right.o2000001 {R : Type} (v0 : Int × Int × Int × Int × Int × Int × Unit) (knormal : Bool → (Int × Int × Int × Int × Int × Int × Unit) → Option R) : Option R :=
  bif decide (Prod.fst v0 < (1 : Int)) then knormal true v0 else knormal (decide (Prod.fst v0 ≥ (32 : Int))) v0
def ref5_Right.s2000001 {R : Type} (v0 : Int × Int × Int × Int × Int × Int × Unit) (knormal : Bool → (Int × Int × Int × Int × Int × Int × Unit) → Option R) : Option R :=
  knormal (decide (Prod.fst v0 < (1 : Int)) || decide (Prod.fst v0 ≥ (32 : Int))) v0
theorem ref5_Right.s2000001_eq {R : Type} (v0 : Int × Int × Int × Int × Int × Int × Unit) (knormal : Bool → (Int × Int × Int × Int × Int × Int × Unit) → Option R) : ref5_Right.s2000001 v0 knormal = ref5_Right.o2000001 v0 knormal := by
  unfold ref5_Right.s2000001 ref5_Right.o2000001
  (cases hc : decide (Prod.fst v0 < (1 : Int)) with | false => (first | rfl | simp_all) | true => (first | rfl | simp_all))
def ref5_Right.T2000008 : Tm := ⟨fill 0 73 [(1, Sl.ptr (1 : Nat) (nilOf Step)), (3, Sl.ptr (3 : Nat) (nilOf Step)), (4, Sl.data (Ty.sl (Ty.int IntKind.i64))), (5, Sl.data (Ty.int IntKind.i64))], [{ k := (1 : Nat), t := HoT, vir := false }, { k := (3 : Nat), t := Ty.arr (5 : Nat) Ty.bool, vir := false }]⟩
def ref5_Right.X2000008_normal : Tm := ⟨fill 0 73 [(1, Sl.ptr (1 : Nat) (nilOf Step)), (3, Sl.ptr (3 : Nat) (nilOf Step)), (4, Sl.data (Ty.sl (Ty.int IntKind.i64))), (5, Sl.data (Ty.int IntKind.i64)), (54, Sl.data Ty.bool)], [{ k := (1 : Nat), t := HoT, vir := false }, { k := (3 : Nat), t := Ty.arr (5 : Nat) Ty.bool, vir := false }]⟩
def ref5_Right.o2000008 {R : Type} (v0 : List Int) (v1 : Int) (v2 : Int × Int × Int × Int × Int × Int × Unit) (v3 : List Bool) (knormal : (List Int) → Int → Bool → (Int × Int × Int × Int × Int × Int × Unit) → (List Bool) → Option R) : Option R :=
  bif decide ((0 : Int) ≤ v1) && decide (v1 < ↑(List.length v0)) then bif decide (List.getD v0 (Int.toNat v1) (0 : Int) < (0 : Int)) then knormal v0 v1 true v2 v3 else bif decide ((0 : Int) ≤ v1) && decide (v1 < ↑(List.length v0)) then bif decide (List.getD v0 (Int.toNat v1) (0 : Int) ≥ (32 : Int)) then knormal v0 v1 true v2 v3 else bif decide ((0 : Int) ≤ v1) && decide (v1 < (5 : Int)) then bif !List.getD v3 (Int.toNat v1) false then bif decide ((0 : Int) ≤ v1) && decide (v1 < ↑(List.length v0)) then knormal v0 v1 (List.getD v0 (Int.toNat v1) (0 : Int) != (0 : Int)) v2 v3 else none else knormal v0 v1 false v2 v3 else none else none else none
def ref5_Right.s2000008 {R : Type} (v0 : List Int) (v1 : Int) (v2 : Int × Int × Int × Int × Int × Int × Unit) (v3 : List Bool) (knormal : (List Int) → Int → Bool → (Int × Int × Int × Int × Int × Int × Unit) → (List Bool) → Option R) : Option R :=
  bif decide ((0 : Int) ≤ v1) && decide (v1 < ↑(List.length v0)) then bif decide (List.getD v0 (Int.toNat v1) (0 : Int) < (0 : Int)) || decide ((0 : Int) ≤ v1) && decide (v1 < ↑(List.length v0)) && (decide (List.getD v0 (Int.toNat v1) (0 : Int) ≥ (32 : Int)) || decide ((0 : Int) ≤ v1) && decide (v1 < (5 : Int)) && (!!List.getD v3 (Int.toNat v1) false || decide ((0 : Int) ≤ v1) && decide (v1 < ↑(List.length v0)))) then knormal v0 v1 (decide (List.getD v0 (Int.toNat v1) (0 : Int) < (0 : Int)) || (decide (List.getD v0 (Int.toNat v1) (0 : Int) ≥ (32 : Int)) || !List.getD v3 (Int.toNat v1) false && List.getD v0 (Int.toNat v1) (0 : Int) != (0 : Int))) v2 v3 else none else none
theorem ref5_Right.s2000008_eq {R : Type} (v0 : List Int) (v1 : Int) (v2 : Int × Int × Int × Int × Int × Int × Unit) (v3 : List Bool) (knormal : (List Int) → Int → Bool → (Int × Int × Int × Int × Int × Int × Unit) → (List Bool) → Option R) : ref5_Right.s2000008 v0 v1 v2 v3 knormal = ref5_Right.o2000008 v0 v1 v2 v3 knormal := by
  unfold ref5_Right.s2000008 ref5_Right.o2000008
  (cases hc : decide ((0 : Int) ≤ v1) && decide (v1 < ↑(List.length v0)) with | false => (first | rfl | simp_all) | true => (cases hc : decide (List.getD v0 (Int.toNat v1) (0 : Int) < (0 : Int)) with | false => (cases hc : decide (List.getD v0 (Int.toNat v1) (0 : Int) ≥ (32 : Int)) with | false => (cases hc : decide ((0 : Int) ≤ v1) && decide (v1 < (5 : Int)) with | false => (first | rfl | simp_all) | true => (cases hc : !List.getD v3 (Int.toNat v1) false with | false => (first | rfl | simp_all) | true => (first | rfl | simp_all))) | true => (first | rfl | simp_all)) | true => (first | rfl | simp_all)))
def ref5_Right.T0 : Tm := ⟨fill 0 73 [(1, Sl.ptr (1 : Nat) (nilOf Step)), (3, Sl.ptr (3 : Nat) (nilOf Step)), (4, Sl.data (Ty.sl (Ty.int IntKind.i64))), (5, Sl.data (Ty.int IntKind.i64))], [{ k := (1 : Nat), t := HoT, vir := false }, { k := (3 : Nat), t := Ty.arr (5 : Nat) Ty.bool, vir := false }]⟩
def ref5_Right.X0_ret : Tm := ⟨fill 0 73 [(1, Sl.ptr (1 : Nat) (nilOf Step)), (2, Sl.data Ty.bool), (3, Sl.ptr (3 : Nat) (nilOf Step))], [{ k := (1 : Nat), t := HoT, vir := false }, { k := (3 : Nat), t := Ty.arr (5 : Nat) Ty.bool, vir := false }]⟩
def ref5_Right.X0_exit0 : Tm := ⟨fill 0 73 [(1, Sl.ptr (1 : Nat) (nilOf Step)), (3, Sl.ptr (3 : Nat) (nilOf Step))], [{ k := (1 : Nat), t := HoT, vir := false }, { k := (3 : Nat), t := Ty.arr (5 : Nat) Ty.bool, vir := false }]⟩
def ref5_Right.round0 {R : Type} (v0 : List Int) (v1 : Int) (v2 : Int × Int × Int × Int × Int × Int × Unit) (v3 : List Bool) (next : (List Int) → Int → (Int × Int × Int × Int × Int × Int × Unit) → (List Bool) → Option R) (kret : Bool → (Int × Int × Int × Int × Int × Int × Unit) → (List Bool) → Option R) (kexit0 : (Int × Int × Int × Int × Int × Int × Unit) → (List Bool) → Option R) : Option R :=
  bif decide (v1 < (4 : Int)) then bif decide ((0 : Int) ≤ v1) && decide (v1 < ↑(List.length v0)) then bif decide (List.getD v0 (Int.toNat v1) (0 : Int) < (0 : Int)) || decide ((0 : Int) ≤ v1) && decide (v1 < ↑(List.length v0)) && (decide (List.getD v0 (Int.toNat v1) (0 : Int) ≥ (32 : Int)) || decide ((0 : Int) ≤ v1) && decide (v1 < (5 : Int)) && (!!List.getD v3 (Int.toNat v1) false || decide ((0 : Int) ≤ v1) && decide (v1 < ↑(List.length v0)))) then bif decide (List.getD v0 (Int.toNat v1) (0 : Int) < (0 : Int)) || (decide (List.getD v0 (Int.toNat v1) (0 : Int) ≥ (32 : Int)) || !List.getD v3 (Int.toNat v1) false && List.getD v0 (Int.toNat v1) (0 : Int) != (0 : Int)) then kret false v2 v3 else next v0 (IntKind.wrap IntKind.i64 (v1 + (1 : Int))) v2 v3 else none else none else kexit0 v2 v3
def ref5_Right.R0 {R : Type} (kret : Bool → (Int × Int × Int × Int × Int × Int × Unit) → (List Bool) → Option R) (kexit0 : (Int × Int × Int × Int × Int × Int × Unit) → (List Bool) → Option R) : ((List Int) × Int × (Int × Int × Int × Int × Int × Int × Unit) × (List Bool)) → (((List Int) × Int × (Int × Int × Int × Int × Int × Int × Unit) × (List Bool)) → Option R) → Option R := fun (v0, v1, v2, v3) next => ref5_Right.round0 v0 v1 v2 v3 (fun w0 w1 w2 w3 => next (w0, w1, w2, w3)) kret kexit0
theorem ref5_Right.R0_eq {R : Type} (kret : Bool → (Int × Int × Int × Int × Int × Int × Unit) → (List Bool) → Option R) (kexit0 : (Int × Int × Int × Int × Int × Int × Unit) → (List Bool) → Option R) (v0 : List Int) (v1 : Int) (v2 : Int × Int × Int × Int × Int × Int × Unit) (v3 : List Bool) (next : ((List Int) × Int × (Int × Int × Int × Int × Int × Int × Unit) × (List Bool)) → Option R) : ref5_Right.R0 kret kexit0 (v0, v1, v2, v3) next = ref5_Right.round0 v0 v1 v2 v3 (fun w0 w1 w2 w3 => next (w0, w1, w2, w3)) kret kexit0 := rfl
def ref5_Right.loop0 {R : Type} (v0 : List Int) (v1 : Int) (v2 : Int × Int × Int × Int × Int × Int × Unit) (v3 : List Bool) (kret : Bool → (Int × Int × Int × Int × Int × Int × Unit) → (List Bool) → Option R) (kexit0 : (Int × Int × Int × Int × Int × Int × Unit) → (List Bool) → Option R) : Option R := lp (ref5_Right.R0 kret kexit0) 5 (v0, v1, v2, v3)
theorem ref5_Right.loop0_ok {R : Type} (v0 : List Int) (v1 : Int) (v2 : Int × Int × Int × Int × Int × Int × Unit) (v3 : List Bool) (kret : Bool → (Int × Int × Int × Int × Int × Int × Unit) → (List Bool) → Option R) (kexit0 : (Int × Int × Int × Int × Int × Int × Unit) → (List Bool) → Option R) (r : R) (h : ref5_Right.loop0 v0 v1 v2 v3 kret kexit0 = some r) : ∃ n, lp (ref5_Right.R0 kret kexit0) n (v0, v1, v2, v3) = some r := ⟨5, h⟩
def ref5_Right.T2000011 : Tm := ⟨fill 0 73 [(1, Sl.ptr (1 : Nat) (nilOf Step))], [{ k := (1 : Nat), t := HoT, vir := false }]⟩
def ref5_Right.X2000011_normal : Tm := ⟨fill 0 73 [(2, Sl.data Ty.bool)], []⟩
def ref5_Right.o2000011 {R : Type} (v0 : Int × Int × Int × Int × Int × Int × Unit) (knormal : Bool → Option R) : Option R :=
  bif decide (Prod.fst (Prod.snd (Prod.snd (Prod.snd (Prod.snd (Prod.snd v0))))) ≥ (1 : Int)) then knormal (decide (Prod.fst (Prod.snd (Prod.snd (Prod.snd (Prod.snd (Prod.snd v0))))) ≤ (99 : Int))) else knormal false
def ref5_Right.s2000011 {R : Type} (v0 : Int × Int × Int × Int × Int × Int × Unit) (knormal : Bool → Option R) : Option R :=
  knormal (decide (Prod.fst (Prod.snd (Prod.snd (Prod.snd (Prod.snd (Prod.snd v0))))) ≥ (1 : Int)) && decide (Prod.fst (Prod.snd (Prod.snd (Prod.snd (Prod.snd (Prod.snd v0))))) ≤ (99 : Int)))
theorem ref5_Right.s2000011_eq {R : Type} (v0 : Int × Int × Int × Int × Int × Int × Unit) (knormal : Bool → Option R) : ref5_Right.s2000011 v0 knormal = ref5_Right.o2000011 v0 knormal := by
  unfold ref5_Right.s2000011 ref5_Right.o2000011
  (cases hc : decide (Prod.fst (Prod.snd (Prod.snd (Prod.snd (Prod.snd (Prod.snd v0))))) ≥ (1 : Int)) with | false => (first | rfl | simp_all) | true => (first | rfl | simp_all))
def ref5_Right.T2000012 : Tm := ⟨fill 0 73 [(1, Sl.ptr (1 : Nat) (nilOf Step)), (3, Sl.ptr (3 : Nat) (nilOf Step))], [{ k := (1 : Nat), t := HoT, vir := false }, { k := (3 : Nat), t := Ty.arr (5 : Nat) Ty.bool, vir := false }]⟩
def ref5_Right.X2000012_normal : Tm := ⟨fill 0 73 [(2, Sl.data Ty.bool)], []⟩
def ref5_Right.o2000012 {R : Type} (v0 : Int × Int × Int × Int × Int × Int × Unit) (v1 : List Bool) (knormal : Bool → Option R) : Option R :=
  bif List.getD v1 (4 : Nat) false then knormal true else knormal (Prod.fst (Prod.snd (Prod.snd (Prod.snd (Prod.snd (Prod.snd v0))))) == (0 : Int))
def ref5_Right.s2000012 {R : Type} (v0 : Int × Int × Int × Int × Int × Int × Unit) (v1 : List Bool) (knormal : Bool → Option R) : Option R :=
  knormal (List.getD v1 (4 : Nat) false || Prod.fst (Prod.snd (Prod.snd (Prod.snd (Prod.snd (Prod.snd v0))))) == (0 : Int))
theorem ref5_Right.s2000012_eq {R : Type} (v0 : Int × Int × Int × Int × Int × Int × Unit) (v1 : List Bool) (knormal : Bool → Option R) : ref5_Right.s2000012 v0 v1 knormal = ref5_Right.o2000012 v0 v1 knormal := by
  unfold ref5_Right.s2000012 ref5_Right.o2000012
  (cases hc : List.getD v1 (4 : Nat) false with | false => (first | rfl | simp_all) | true => (first | rfl | simp_all))
def ref5_Right.C : Cfg := { rows := [], keep := [(0, [1, 3, 4, 5], [1, 3]), (1000000, [1, 2, 3], [1, 3]), (2000001, [1], [1]), (12000001, [1, 13], [1]), (2000008, [1, 3, 4, 5], [1, 3]), (12000008, [1, 3, 4, 5, 54], [1, 3]), (2000011, [1], [1]), (12000011, [2], []), (2000012, [1, 3], [1, 3]), (12000012, [2], [])], adopt := [] }
def ref5_Right.sum2000001 : FrV ref5_Right.T2000001.fr × StV ref5_Right.T2000001.st → (Ex → S → Option (List DVal)) → Option (List DVal) := fun ((()), (v0, ())) K => ref5_Right.s2000001 v0 (fun e0 e1 => K .normal (pack ref5_Right.X2000001_normal ((e0, ()), (e1, ()))))
def ref5_Right.sum2000008 : FrV ref5_Right.T2000008.fr × StV ref5_Right.T2000008.st → (Ex → S → Option (List DVal)) → Option (List DVal) := fun ((v0, v1, ()), (v2, v3, ())) K => ref5_Right.s2000008 v0 v1 v2 v3 (fun e0 e1 e2 e3 e4 => K .normal (pack ref5_Right.X2000008_normal ((e0, e1, e2, ()), (e3, e4, ()))))
def ref5_Right.sum2000011 : FrV ref5_Right.T2000011.fr × StV ref5_Right.T2000011.st → (Ex → S → Option (List DVal)) → Option (List DVal) := fun ((()), (v0, ())) K => ref5_Right.s2000011 v0 (fun e0 => K .normal (pack ref5_Right.X2000011_normal ((e0, ()), (()))))
def ref5_Right.sum2000012 : FrV ref5_Right.T2000012.fr × StV ref5_Right.T2000012.st → (Ex → S → Option (List DVal)) → Option (List DVal) := fun ((()), (v0, v1, ())) K => ref5_Right.s2000012 v0 v1 (fun e0 => K .normal (pack ref5_Right.X2000012_normal ((e0, ()), (()))))
def ref5_Right.sum0 : FrV ref5_Right.T0.fr × StV ref5_Right.T0.st → (Ex → S → Option (List DVal)) → Option (List DVal) := fun ((v0, v1, ()), (v2, v3, ())) K => ref5_Right.loop0 v0 v1 v2 v3 (fun e0 e1 e2 => K .ret (pack ref5_Right.X0_ret ((e0, ()), (e1, e2, ())))) (fun e0 e1 => K (.exit 0) (pack ref5_Right.X0_exit0 ((()), (e0, e1, ()))))
def ref5_Right.rnd0 : FrV ref5_Right.T0.fr × StV ref5_Right.T0.st → (FrV ref5_Right.T0.fr × StV ref5_Right.T0.st → Option (List DVal)) → (Ex → S → Option (List DVal)) → Option (List DVal) := fun ((v0, v1, ()), (v2, v3, ())) next K => ref5_Right.round0 v0 v1 v2 v3 (fun w0 w1 w2 w3 => next ((w0, w1, ()), (w2, w3, ()))) (fun e0 e1 e2 => K .ret (pack ref5_Right.X0_ret ((e0, ()), (e1, e2, ())))) (fun e0 e1 => K (.exit 0) (pack ref5_Right.X0_exit0 ((()), (e0, e1, ()))))
def ref5_Right.L : Nat → Option Sum := fun i => if i = 0 then some (sumOf ref5_Right.T0 ref5_Right.sum0) else if i = 2000001 then some (sumOf ref5_Right.T2000001 ref5_Right.sum2000001) else if i = 2000008 then some (sumOf ref5_Right.T2000008 ref5_Right.sum2000008) else if i = 2000011 then some (sumOf ref5_Right.T2000011 ref5_Right.sum2000011) else if i = 2000012 then some (sumOf ref5_Right.T2000012 ref5_Right.sum2000012) else none
theorem ref5_Right.rnd0_eq : ∀ v (r : S → Option (List DVal)) (K : Ex → S → Option (List DVal)), exec Try.prog ref5_Right.C ref5_Right.env ref5_Right.L 0 (loopOf Try.f17 0) (pack ref5_Right.T0 v) (fun e s' => match e with | .normal => r (trim ref5_Right.C 0 s') | e => K e (trim ref5_Right.C (0 + 1000000) s')) = ref5_Right.rnd0 v (fun v' => r (pack ref5_Right.T0 v')) K :=
  fun ((v0, v1, ()), (v2, v3, ())) r K => by kernel_rfl
theorem ref5_Right.lp0 (K : Ex → S → Option (List DVal)) : ∀ (n : Nat) (v0 : List Int) (v1 : Int) (v2 : Int × Int × Int × Int × Int × Int × Unit) (v3 : List Bool), lp (fun v next => ref5_Right.rnd0 v next K) n ((v0, v1, ()), (v2, v3, ())) = lp (ref5_Right.R0 (fun e0 e1 e2 => K .ret (pack ref5_Right.X0_ret ((e0, ()), (e1, e2, ())))) (fun e0 e1 => K (.exit 0) (pack ref5_Right.X0_exit0 ((()), (e0, e1, ()))))) n (v0, v1, v2, v3) := by
  intro n
  induction n with
  | zero => intros; rfl
  | succ n ih =>
    intro v0 v1 v2 v3
    show ref5_Right.round0 v0 v1 v2 v3 (fun w0 w1 w2 w3 => lp (fun v next => ref5_Right.rnd0 v next K) n ((w0, w1, ()), (w2, w3, ()))) (fun e0 e1 e2 => K .ret (pack ref5_Right.X0_ret ((e0, ()), (e1, e2, ())))) (fun e0 e1 => K (.exit 0) (pack ref5_Right.X0_exit0 ((()), (e0, e1, ())))) = ref5_Right.round0 v0 v1 v2 v3 (fun w0 w1 w2 w3 => lp (ref5_Right.R0 (fun e0 e1 e2 => K .ret (pack ref5_Right.X0_ret ((e0, ()), (e1, e2, ())))) (fun e0 e1 => K (.exit 0) (pack ref5_Right.X0_exit0 ((()), (e0, e1, ()))))) n (w0, w1, w2, w3)) (fun e0 e1 e2 => K .ret (pack ref5_Right.X0_ret ((e0, ()), (e1, e2, ())))) (fun e0 e1 => K (.exit 0) (pack ref5_Right.X0_exit0 ((()), (e0, e1, ()))))
    simp only [ih]
theorem ref5_Right.sum0_ok : SumOk Try.prog ref5_Right.C ref5_Right.env ref5_Right.L 0 (loopOf Try.f17 0) := sumOk_lp (T := ref5_Right.T0) (rnd := ref5_Right.rnd0) (f := ref5_Right.sum0) rfl ref5_Right.rnd0_eq fun ((v0, v1, ()), (v2, v3, ())) K r h => by
  obtain ⟨n, hn⟩ := ref5_Right.loop0_ok v0 v1 v2 v3 (fun e0 e1 e2 => K .ret (pack ref5_Right.X0_ret ((e0, ()), (e1, e2, ())))) (fun e0 e1 => K (.exit 0) (pack ref5_Right.X0_exit0 ((()), (e0, e1, ())))) r h
  exact ⟨n, by rw [ref5_Right.lp0]; exact hn⟩
theorem ref5_Right.x2000001 : ∀ v (K : Ex → S → Option (List DVal)), exec1 Try.prog ref5_Right.C ref5_Right.env ref5_Right.L (spotOf Try.f17 2000001).2.1 (spotOf Try.f17 2000001).2.2 (pack ref5_Right.T2000001 v) (fun e s' => K e (trim ref5_Right.C (2000001 + 10000000) s')) = (fun (((()), (v0, ())) : FrV ref5_Right.T2000001.fr × StV ref5_Right.T2000001.st) => ref5_Right.o2000001 v0 (fun e0 e1 => K .normal (pack ref5_Right.X2000001_normal ((e0, ()), (e1, ()))))) v :=
  fun ((()), (v0, ())) K => by kernel_rfl
theorem ref5_Right.sum2000001_ok : SpotOk Try.prog ref5_Right.C ref5_Right.env ref5_Right.L (spotOf Try.f17 2000001) := spotOk_of (T := ref5_Right.T2000001) (q := 2000001) (f := ref5_Right.sum2000001) (by kernel_rfl) (by kernel_rfl) fun ((()), (v0, ())) K r h => (ref5_Right.x2000001 _ K).trans ((ref5_Right.s2000001_eq v0 (fun e0 e1 => K .normal (pack ref5_Right.X2000001_normal ((e0, ()), (e1, ()))))).symm.trans h)
theorem ref5_Right.x2000008 : ∀ v (K : Ex → S → Option (List DVal)), exec1 Try.prog ref5_Right.C ref5_Right.env ref5_Right.L (spotOf Try.f17 2000008).2.1 (spotOf Try.f17 2000008).2.2 (pack ref5_Right.T2000008 v) (fun e s' => K e (trim ref5_Right.C (2000008 + 10000000) s')) = (fun (((v0, v1, ()), (v2, v3, ())) : FrV ref5_Right.T2000008.fr × StV ref5_Right.T2000008.st) => ref5_Right.o2000008 v0 v1 v2 v3 (fun e0 e1 e2 e3 e4 => K .normal (pack ref5_Right.X2000008_normal ((e0, e1, e2, ()), (e3, e4, ()))))) v :=
  fun ((v0, v1, ()), (v2, v3, ())) K => by kernel_rfl
theorem ref5_Right.sum2000008_ok : SpotOk Try.prog ref5_Right.C ref5_Right.env ref5_Right.L (spotOf Try.f17 2000008) := spotOk_of (T := ref5_Right.T2000008) (q := 2000008) (f := ref5_Right.sum2000008) (by kernel_rfl) (by kernel_rfl) fun ((v0, v1, ()), (v2, v3, ())) K r h => (ref5_Right.x2000008 _ K).trans ((ref5_Right.s2000008_eq v0 v1 v2 v3 (fun e0 e1 e2 e3 e4 => K .normal (pack ref5_Right.X2000008_normal ((e0, e1, e2, ()), (e3, e4, ()))))).symm.trans h)
theorem ref5_Right.x2000011 : ∀ v (K : Ex → S → Option (List DVal)), exec1 Try.prog ref5_Right.C ref5_Right.env ref5_Right.L (spotOf Try.f17 2000011).2.1 (spotOf Try.f17 2000011).2.2 (pack ref5_Right.T2000011 v) (fun e s' => K e (trim ref5_Right.C (2000011 + 10000000) s')) = (fun (((()), (v0, ())) : FrV ref5_Right.T2000011.fr × StV ref5_Right.T2000011.st) => ref5_Right.o2000011 v0 (fun e0 => K .normal (pack ref5_Right.X2000011_normal ((e0, ()), (()))))) v :=
  fun ((()), (v0, ())) K => by kernel_rfl
theorem ref5_Right.sum2000011_ok : SpotOk Try.prog ref5_Right.C ref5_Right.env ref5_Right.L (spotOf Try.f17 2000011) := spotOk_of (T := ref5_Right.T2000011) (q := 2000011) (f := ref5_Right.sum2000011) (by kernel_rfl) (by kernel_rfl) fun ((()), (v0, ())) K r h => (ref5_Right.x2000011 _ K).trans ((ref5_Right.s2000011_eq v0 (fun e0 => K .normal (pack ref5_Right.X2000011_normal ((e0, ()), (()))))).symm.trans h)
theorem ref5_Right.x2000012 : ∀ v (K : Ex → S → Option (List DVal)), exec1 Try.prog ref5_Right.C ref5_Right.env ref5_Right.L (spotOf Try.f17 2000012).2.1 (spotOf Try.f17 2000012).2.2 (pack ref5_Right.T2000012 v) (fun e s' => K e (trim ref5_Right.C (2000012 + 10000000) s')) = (fun (((()), (v0, v1, ())) : FrV ref5_Right.T2000012.fr × StV ref5_Right.T2000012.st) => ref5_Right.o2000012 v0 v1 (fun e0 => K .normal (pack ref5_Right.X2000012_normal ((e0, ()), (()))))) v :=
  fun ((()), (v0, v1, ())) K => by kernel_rfl
theorem ref5_Right.sum2000012_ok : SpotOk Try.prog ref5_Right.C ref5_Right.env ref5_Right.L (spotOf Try.f17 2000012) := spotOk_of (T := ref5_Right.T2000012) (q := 2000012) (f := ref5_Right.sum2000012) (by kernel_rfl) (by kernel_rfl) fun ((()), (v0, v1, ())) K r h => (ref5_Right.x2000012 _ K).trans ((ref5_Right.s2000012_eq v0 v1 (fun e0 => K .normal (pack ref5_Right.X2000012_normal ((e0, ()), (()))))).symm.trans h)
def ref5_Right.tree {R : Type} (a0 : Int × Int × Int × Int × Int × Int × Unit) (ret : Bool → Option R) : Option R :=
  bif decide (Prod.fst a0 < (1 : Int)) || decide (Prod.fst a0 ≥ (32 : Int)) then ret false else ref5_Right.loop0 [Prod.fst (Prod.snd a0), Prod.fst (Prod.snd (Prod.snd a0)), Prod.fst (Prod.snd (Prod.snd (Prod.snd a0))), Prod.fst (Prod.snd (Prod.snd (Prod.snd (Prod.snd a0))))] (0 : Int) a0 (ref5_uses (Prod.fst a0)) (fun e0 e1 e2 => ret e0) fun e0 e1 => bif Prod.fst e0 == (31 : Int) then ret (decide (Prod.fst (Prod.snd (Prod.snd (Prod.snd (Prod.snd (Prod.snd e0))))) ≥ (1 : Int)) && decide (Prod.fst (Prod.snd (Prod.snd (Prod.snd (Prod.snd (Prod.snd e0))))) ≤ (99 : Int))) else ret (List.getD e1 (4 : Nat) false || Prod.fst (Prod.snd (Prod.snd (Prod.snd (Prod.snd (Prod.snd e0))))) == (0 : Int))
theorem ref5_Right.eq (a0 : Int × Int × Int × Int × Int × Int × Unit) : body Try.prog ref5_Right.C ref5_Right.env ref5_Right.L Try.f17 [⟨HoT, a0⟩] = ref5_Right.tree a0 (fun r0 => some ([⟨Ty.bool, r0⟩] : List DVal)) := by kernel_rfl
theorem ops31 {P : Int → Prop} (h : ∀ k : Fin 31, P ((k.val : Int) + 1)) {o : Int} (h1 : 1 ≤ o) (h2 : o < 32) : P o := by
  have := h ⟨(o - 1).toNat, by omega⟩
  have e : (((o - 1).toNat : Nat) : Int) + 1 = o := by omega
  rwa [e] at this
theorem name_eq {o : Int} (h1 : 1 ≤ o) (h2 : o < 32) : host_Name o = ref5_Name o := by
  rcases (by omega : o = 1 ∨ o = 2 ∨ o = 3 ∨ o = 4 ∨ o = 5 ∨ o = 6 ∨ o = 7 ∨ o = 8 ∨ o = 9 ∨ o = 10 ∨ o = 11 ∨ o = 12 ∨ o = 13 ∨ o = 14 ∨ o = 15 ∨ o = 16 ∨ o = 17 ∨ o = 18 ∨ o = 19 ∨ o = 20 ∨ o = 21 ∨ o = 22 ∨ o = 23 ∨ o = 24 ∨ o = 25 ∨ o = 26 ∨ o = 27 ∨ o = 28 ∨ o = 29 ∨ o = 30 ∨ o = 31) with rfl | rfl | rfl | rfl | rfl | rfl | rfl | rfl | rfl | rfl | rfl | rfl | rfl | rfl | rfl | rfl | rfl | rfl | rfl | rfl | rfl | rfl | rfl | rfl | rfl | rfl | rfl | rfl | rfl | rfl | rfl <;> rfl
theorem cost_eq {o : Int} (h1 : 1 ≤ o) (h2 : o < 32) : host_Cost o = ref5_Cost o := by
  rcases (by omega : o = 1 ∨ o = 2 ∨ o = 3 ∨ o = 4 ∨ o = 5 ∨ o = 6 ∨ o = 7 ∨ o = 8 ∨ o = 9 ∨ o = 10 ∨ o = 11 ∨ o = 12 ∨ o = 13 ∨ o = 14 ∨ o = 15 ∨ o = 16 ∨ o = 17 ∨ o = 18 ∨ o = 19 ∨ o = 20 ∨ o = 21 ∨ o = 22 ∨ o = 23 ∨ o = 24 ∨ o = 25 ∨ o = 26 ∨ o = 27 ∨ o = 28 ∨ o = 29 ∨ o = 30 ∨ o = 31) with rfl | rfl | rfl | rfl | rfl | rfl | rfl | rfl | rfl | rfl | rfl | rfl | rfl | rfl | rfl | rfl | rfl | rfl | rfl | rfl | rfl | rfl | rfl | rfl | rfl | rfl | rfl | rfl | rfl | rfl | rfl <;> rfl
theorem same_all (o : Int) : law5_same o = true := by
  have l1 : host_Loads o = ref5_Loads o := rfl
  have l2 : host_Stores o = ref5_Stores o := rfl
  by_cases h1 : 1 ≤ o <;> by_cases h2 : o < 32
  · unfold law5_same
    rw [name_eq h1 h2, cost_eq h1 h2, l1, l2]
    simp
  all_goals
    have hc : (decide (o < 1) || decide (o ≥ 32)) = true := by
      simp only [Bool.or_eq_true, decide_eq_true_eq]
      omega
    have n1 : host_Name o = ByteArray.empty := by
      unfold host_Name host_Name.tree
      by_cases h0 : o = 0
      · subst h0; rfl
      · have : (decide (o < 0) || decide (o ≥ 32)) = true := by
          simp only [Bool.or_eq_true, decide_eq_true_eq]
          omega
        rw [this]; rfl
    have n2 : ref5_Name o = ByteArray.empty := by
      unfold ref5_Name ref5_Name.tree
      have : (decide (o < 1) || decide (o > 31)) = true := by
        simp only [Bool.or_eq_true, decide_eq_true_eq]
        omega
      rw [this]; rfl
    have c1 : host_Cost o = 0 := by unfold host_Cost; rw [hc]; rfl
    have c2 : ref5_Cost o = 0 := by unfold ref5_Cost; rw [hc]; rfl
    unfold law5_same
    rw [n1, n2, c1, c2, l1, l2]
    simp
theorem uses_fields {o : Int} (h1 : 1 ≤ o) (h2 : o < 32) : ref5_uses o = [(host_fields o).1, (host_fields o).2.1, (host_fields o).2.2.1, (host_fields o).2.2.2.1, (host_fields o).2.2.2.2] := by
  rcases (by omega : o = 1 ∨ o = 2 ∨ o = 3 ∨ o = 4 ∨ o = 5 ∨ o = 6 ∨ o = 7 ∨ o = 8 ∨ o = 9 ∨ o = 10 ∨ o = 11 ∨ o = 12 ∨ o = 13 ∨ o = 14 ∨ o = 15 ∨ o = 16 ∨ o = 17 ∨ o = 18 ∨ o = 19 ∨ o = 20 ∨ o = 21 ∨ o = 22 ∨ o = 23 ∨ o = 24 ∨ o = 25 ∨ o = 26 ∨ o = 27 ∨ o = 28 ∨ o = 29 ∨ o = 30 ∨ o = 31) with rfl | rfl | rfl | rfl | rfl | rfl | rfl | rfl | rfl | rfl | rfl | rfl | rfl | rfl | rfl | rfl | rfl | rfl | rfl | rfl | rfl | rfl | rfl | rfl | rfl | rfl | rfl | rfl | rfl | rfl | rfl <;> rfl
theorem reg_ok (r : Int) (u : Bool) : (decide (r < 0) || (decide (r ≥ 32) || !u && r != 0)) = !(host_register r u) := by
  unfold host_register
  by_cases h0 : r = 0
  · subst h0; cases u <;> rfl
  · have e0 : (r == 0) = false := by simpa using h0
    have e1 : (r != 0) = true := by simpa using h0
    rw [e0, e1]
    by_cases h1 : r < 0
    · rw [decide_eq_true h1, decide_eq_false (by omega : ¬ r > 0)]
      cases u <;> rfl
    · by_cases h2 : r ≥ 32
      · rw [decide_eq_false h1, decide_eq_true h2, decide_eq_false (by omega : ¬ r < 32)]
        cases u <;> cases decide (r > 0) <;> rfl
      · rw [decide_eq_false h1, decide_eq_false h2, decide_eq_true (by omega : r < 32), decide_eq_true (by omega : r > 0)]
        cases u <;> rfl
theorem right_step0 {R : Type} (D A B C : Int) (u0 u1 u2 u3 u4 : Bool) (h : Hos) (next : List Int → Int → Hos → List Bool → Option R) (kret : Bool → Hos → List Bool → Option R) (kx : Hos → List Bool → Option R) : ref5_Right.round0 [D, A, B, C] 0 h [u0, u1, u2, u3, u4] next kret kx = bif !(host_register D u0) then kret false h [u0, u1, u2, u3, u4] else next [D, A, B, C] 1 h [u0, u1, u2, u3, u4] := by
  rw [← reg_ok]
  show (bif decide (D < 0) || (true && (decide (D ≥ 32) || (true && (!!u0 || true)))) then (bif decide (D < 0) || (decide (D ≥ 32) || !u0 && D != 0) then kret false h [u0, u1, u2, u3, u4] else next [D, A, B, C] 1 h [u0, u1, u2, u3, u4]) else none) = _
  cases decide (D < 0) <;> cases decide (D ≥ 32) <;> cases u0 <;> rfl
theorem right_step1 {R : Type} (D A B C : Int) (u0 u1 u2 u3 u4 : Bool) (h : Hos) (next : List Int → Int → Hos → List Bool → Option R) (kret : Bool → Hos → List Bool → Option R) (kx : Hos → List Bool → Option R) : ref5_Right.round0 [D, A, B, C] 1 h [u0, u1, u2, u3, u4] next kret kx = bif !(host_register A u1) then kret false h [u0, u1, u2, u3, u4] else next [D, A, B, C] 2 h [u0, u1, u2, u3, u4] := by
  rw [← reg_ok]
  show (bif decide (A < 0) || (true && (decide (A ≥ 32) || (true && (!!u1 || true)))) then (bif decide (A < 0) || (decide (A ≥ 32) || !u1 && A != 0) then kret false h [u0, u1, u2, u3, u4] else next [D, A, B, C] 2 h [u0, u1, u2, u3, u4]) else none) = _
  cases decide (A < 0) <;> cases decide (A ≥ 32) <;> cases u1 <;> rfl
theorem right_step2 {R : Type} (D A B C : Int) (u0 u1 u2 u3 u4 : Bool) (h : Hos) (next : List Int → Int → Hos → List Bool → Option R) (kret : Bool → Hos → List Bool → Option R) (kx : Hos → List Bool → Option R) : ref5_Right.round0 [D, A, B, C] 2 h [u0, u1, u2, u3, u4] next kret kx = bif !(host_register B u2) then kret false h [u0, u1, u2, u3, u4] else next [D, A, B, C] 3 h [u0, u1, u2, u3, u4] := by
  rw [← reg_ok]
  show (bif decide (B < 0) || (true && (decide (B ≥ 32) || (true && (!!u2 || true)))) then (bif decide (B < 0) || (decide (B ≥ 32) || !u2 && B != 0) then kret false h [u0, u1, u2, u3, u4] else next [D, A, B, C] 3 h [u0, u1, u2, u3, u4]) else none) = _
  cases decide (B < 0) <;> cases decide (B ≥ 32) <;> cases u2 <;> rfl
theorem right_step3 {R : Type} (D A B C : Int) (u0 u1 u2 u3 u4 : Bool) (h : Hos) (next : List Int → Int → Hos → List Bool → Option R) (kret : Bool → Hos → List Bool → Option R) (kx : Hos → List Bool → Option R) : ref5_Right.round0 [D, A, B, C] 3 h [u0, u1, u2, u3, u4] next kret kx = bif !(host_register C u3) then kret false h [u0, u1, u2, u3, u4] else next [D, A, B, C] 4 h [u0, u1, u2, u3, u4] := by
  rw [← reg_ok]
  show (bif decide (C < 0) || (true && (decide (C ≥ 32) || (true && (!!u3 || true)))) then (bif decide (C < 0) || (decide (C ≥ 32) || !u3 && C != 0) then kret false h [u0, u1, u2, u3, u4] else next [D, A, B, C] 4 h [u0, u1, u2, u3, u4]) else none) = _
  cases decide (C < 0) <;> cases decide (C ≥ 32) <;> cases u3 <;> rfl
theorem right_loop {R : Type} (D A B C : Int) (u0 u1 u2 u3 u4 : Bool) (h : Hos) (kret : Bool → Hos → List Bool → Option R) (kx : Hos → List Bool → Option R) : ref5_Right.loop0 [D, A, B, C] 0 h [u0, u1, u2, u3, u4] kret kx = bif !(host_register D u0) then kret false h [u0, u1, u2, u3, u4] else bif !(host_register A u1) then kret false h [u0, u1, u2, u3, u4] else bif !(host_register B u2) then kret false h [u0, u1, u2, u3, u4] else bif !(host_register C u3) then kret false h [u0, u1, u2, u3, u4] else kx h [u0, u1, u2, u3, u4] := by
  unfold ref5_Right.loop0
  rw [lp_succ, ref5_Right.R0_eq, right_step0, lp_succ, ref5_Right.R0_eq, right_step1, lp_succ, ref5_Right.R0_eq, right_step2, lp_succ, ref5_Right.R0_eq, right_step3, lp_succ, ref5_Right.R0_eq]
  rfl
def ref5_Right (h : Hos) : Bool := host_Right h
theorem ref5_Right.nice {R : Type} (h : Hos) (ret : Bool → Option R) : ref5_Right.tree h ret = ret (ref5_Right h) := by
  obtain ⟨o, D, A, B, C, m, u⟩ := h
  unfold ref5_Right.tree ref5_Right host_Right
  dsimp only
  by_cases h1 : 1 ≤ o <;> by_cases h2 : o < 32
  · rw [uses_fields h1 h2, right_loop, decide_eq_false (Int.not_lt.2 h1), decide_eq_false (Int.not_le.2 h2)]
    by_cases h3 : o = 31
    · subst h3
      have hf : (host_fields 31).2.2.2.2 = true := rfl
      dsimp only
      rw [hf]
      by_cases m1 : 1 ≤ m <;> by_cases m2 : m ≤ 99
      · rw [decide_eq_false (Int.not_lt.2 m1), decide_eq_false (Int.not_lt.2 m2), decide_eq_true (show m ≥ 1 from m1), decide_eq_true m2]
        cases host_register D (host_fields 31).1 <;> cases host_register A (host_fields 31).2.1 <;> cases host_register B (host_fields 31).2.2.1 <;> cases host_register C (host_fields 31).2.2.2.1 <;> rfl
      · rw [decide_eq_false (Int.not_lt.2 m1), decide_eq_true (show m > 99 from Int.not_le.1 m2), decide_eq_true (show m ≥ 1 from m1), decide_eq_false m2]
        cases host_register D (host_fields 31).1 <;> cases host_register A (host_fields 31).2.1 <;> cases host_register B (host_fields 31).2.2.1 <;> cases host_register C (host_fields 31).2.2.2.1 <;> rfl
      · rw [decide_eq_true (show m < 1 from Int.not_le.1 m1), decide_eq_false (show ¬ m ≥ 1 from m1)]
        cases host_register D (host_fields 31).1 <;> cases host_register A (host_fields 31).2.1 <;> cases host_register B (host_fields 31).2.2.1 <;> cases host_register C (host_fields 31).2.2.2.1 <;> rfl
      · rw [decide_eq_true (show m < 1 from Int.not_le.1 m1), decide_eq_false (show ¬ m ≥ 1 from m1)]
        cases host_register D (host_fields 31).1 <;> cases host_register A (host_fields 31).2.1 <;> cases host_register B (host_fields 31).2.2.1 <;> cases host_register C (host_fields 31).2.2.2.1 <;> rfl
    · have e : (o == 31) = false := by simpa using h3
      dsimp only
      rw [e]
      cases host_register D (host_fields o).1 <;> cases host_register A (host_fields o).2.1 <;> cases host_register B (host_fields o).2.2.1 <;> cases host_register C (host_fields o).2.2.2.1 <;> rfl
  · rw [decide_eq_true (show o ≥ 32 from Int.not_lt.1 h2), Bool.or_true, Bool.true_or, Bool.or_true]; rfl
  · rw [decide_eq_true (show o < 1 from Int.not_le.1 h1), Bool.true_or, Bool.true_or]; rfl
  · rw [decide_eq_true (show o < 1 from Int.not_le.1 h1), Bool.true_or, Bool.true_or]; rfl
def ref5_Right.ctr : Ctr := ctrOf [HoT] fun x => .ret [⟨Ty.bool, ref5_Right (x.1)⟩]
theorem ref5_Right.known : Known Try.prog 17 ref5_Right.ctr :=
  known_plain ref5_Right.envOk mixed Try.func17 (by kernel_rfl) (by kernel_rfl) (byId (by kernel_rfl : loopIds Try.f17 = [0]) (by intro q hq; simp only [List.mem_cons, List.not_mem_nil, or_false] at hq; subst hq; first | exact ref5_Right.sum0_ok)) (bySpot (ids := [2000001, 2000008, 2000011, 2000012]) (by kernel_rfl) (by intro q hq; simp only [List.mem_cons, List.not_mem_nil, or_false] at hq; rcases hq with rfl | rfl | rfl | rfl <;> first | exact ref5_Right.sum2000001_ok | exact ref5_Right.sum2000008_ok | exact ref5_Right.sum2000011_ok | exact ref5_Right.sum2000012_ok)) fun x rs h => by
    obtain ⟨a0, u⟩ := x
    cases u
    simp only [Cmd.val_ret] at h
    exact (ref5_Right.eq a0).trans ((ref5_Right.nice a0 (fun r0 => some ([⟨Ty.bool, r0⟩] : List DVal))).trans h)

/-! ### host_Put -/
def host_Put.env : Env := envCons 16 host_Right.ctr <| envNil
theorem host_Put.envOk : EnvOk Try.prog host_Put.env := envOk_cons host_Right.known (envOk_nil _)
def host_Put.T0 : Tm := ⟨fill 0 38 [(1, Sl.ptr (1 : Nat) (nilOf Step)), (3, Sl.ref (23 : Nat)), (24, Sl.data (Ty.int IntKind.i64))], [{ k := (1 : Nat), t := HoT, vir := false }, { k := (23 : Nat), t := Ty.own (Ty.int IntKind.u8), vir := true }]⟩
def host_Put.X0_exit0 : Tm := ⟨fill 0 38 [(3, Sl.ref (23 : Nat))], [{ k := (23 : Nat), t := Ty.own (Ty.int IntKind.u8), vir := true }]⟩
def host_Put.round0 {R : Type} (v0 : Int) (v1 : Int × Int × Int × Int × Int × Int × Unit) (v2 : List Int) (next : Int → (Int × Int × Int × Int × Int × Int × Unit) → (List Int) → Option R) (kexit0 : (List Int) → Option R) : Option R :=
  bif decide (v0 < (4 : Int)) then bif decide ((0 : Int) ≤ IntKind.wrap IntKind.i64 ((8 : Int) * v0)) then bif roomOk (List.length v2 + (1 : Nat)) (1 : Nat) then next (IntKind.wrap IntKind.i64 (v0 + (1 : Int))) v1 (v2 ++ [IntKind.wrap IntKind.u8 (shr IntKind.u32 (Prod.fst (Prod.snd (Prod.snd (Prod.snd (Prod.snd (Prod.snd v1)))))) (IntKind.wrap IntKind.i64 ((8 : Int) * v0)))]) else none else none else kexit0 v2
def host_Put.R0 {R : Type} (kexit0 : (List Int) → Option R) : (Int × (Int × Int × Int × Int × Int × Int × Unit) × (List Int)) → ((Int × (Int × Int × Int × Int × Int × Int × Unit) × (List Int)) → Option R) → Option R := fun (v0, v1, v2) next => host_Put.round0 v0 v1 v2 (fun w0 w1 w2 => next (w0, w1, w2)) kexit0
theorem host_Put.R0_eq {R : Type} (kexit0 : (List Int) → Option R) (v0 : Int) (v1 : Int × Int × Int × Int × Int × Int × Unit) (v2 : List Int) (next : (Int × (Int × Int × Int × Int × Int × Int × Unit) × (List Int)) → Option R) : host_Put.R0 kexit0 (v0, v1, v2) next = host_Put.round0 v0 v1 v2 (fun w0 w1 w2 => next (w0, w1, w2)) kexit0 := rfl
def host_Put.loop0 {R : Type} (v0 : Int) (v1 : Int × Int × Int × Int × Int × Int × Unit) (v2 : List Int) (kexit0 : (List Int) → Option R) : Option R := lp (host_Put.R0 kexit0) 5 (v0, v1, v2)
theorem host_Put.loop0_ok {R : Type} (v0 : Int) (v1 : Int × Int × Int × Int × Int × Int × Unit) (v2 : List Int) (kexit0 : (List Int) → Option R) (r : R) (h : host_Put.loop0 v0 v1 v2 kexit0 = some r) : ∃ n, lp (host_Put.R0 kexit0) n (v0, v1, v2) = some r := ⟨5, h⟩
def host_Put.C : Cfg := { rows := [23], keep := [(0, [1, 3, 24], [1, 23]), (1000000, [2, 3], [23])], adopt := [] }
def host_Put.sum0 : FrV host_Put.T0.fr × StV host_Put.T0.st → (Ex → S → Option (List DVal)) → Option (List DVal) := fun ((v0, ()), (v1, v2, ())) K => host_Put.loop0 v0 v1 v2 (fun e0 => K (.exit 0) (pack host_Put.X0_exit0 ((()), (e0, ()))))
def host_Put.rnd0 : FrV host_Put.T0.fr × StV host_Put.T0.st → (FrV host_Put.T0.fr × StV host_Put.T0.st → Option (List DVal)) → (Ex → S → Option (List DVal)) → Option (List DVal) := fun ((v0, ()), (v1, v2, ())) next K => host_Put.round0 v0 v1 v2 (fun w0 w1 w2 => next ((w0, ()), (w1, w2, ()))) (fun e0 => K (.exit 0) (pack host_Put.X0_exit0 ((()), (e0, ()))))
def host_Put.L : Nat → Option Sum := fun i => if i = 0 then some (sumOf host_Put.T0 host_Put.sum0) else none
theorem host_Put.rnd0_eq : ∀ v (r : S → Option (List DVal)) (K : Ex → S → Option (List DVal)), exec Try.prog host_Put.C host_Put.env host_Put.L 0 (loopOf Try.f18 0) (pack host_Put.T0 v) (fun e s' => match e with | .normal => r (trim host_Put.C 0 s') | e => K e (trim host_Put.C (0 + 1000000) s')) = host_Put.rnd0 v (fun v' => r (pack host_Put.T0 v')) K :=
  fun ((v0, ()), (v1, v2, ())) r K => by kernel_rfl
theorem host_Put.lp0 (K : Ex → S → Option (List DVal)) : ∀ (n : Nat) (v0 : Int) (v1 : Int × Int × Int × Int × Int × Int × Unit) (v2 : List Int), lp (fun v next => host_Put.rnd0 v next K) n ((v0, ()), (v1, v2, ())) = lp (host_Put.R0 (fun e0 => K (.exit 0) (pack host_Put.X0_exit0 ((()), (e0, ()))))) n (v0, v1, v2) := by
  intro n
  induction n with
  | zero => intros; rfl
  | succ n ih =>
    intro v0 v1 v2
    show host_Put.round0 v0 v1 v2 (fun w0 w1 w2 => lp (fun v next => host_Put.rnd0 v next K) n ((w0, ()), (w1, w2, ()))) (fun e0 => K (.exit 0) (pack host_Put.X0_exit0 ((()), (e0, ())))) = host_Put.round0 v0 v1 v2 (fun w0 w1 w2 => lp (host_Put.R0 (fun e0 => K (.exit 0) (pack host_Put.X0_exit0 ((()), (e0, ()))))) n (w0, w1, w2)) (fun e0 => K (.exit 0) (pack host_Put.X0_exit0 ((()), (e0, ()))))
    simp only [ih]
theorem host_Put.sum0_ok : SumOk Try.prog host_Put.C host_Put.env host_Put.L 0 (loopOf Try.f18 0) := sumOk_lp (T := host_Put.T0) (rnd := host_Put.rnd0) (f := host_Put.sum0) rfl host_Put.rnd0_eq fun ((v0, ()), (v1, v2, ())) K r h => by
  obtain ⟨n, hn⟩ := host_Put.loop0_ok v0 v1 v2 (fun e0 => K (.exit 0) (pack host_Put.X0_exit0 ((()), (e0, ())))) r h
  exact ⟨n, by rw [host_Put.lp0]; exact hn⟩
def host_Put.tree {R : Type} (a0 : Int × Int × Int × Int × Int × Int × Unit) (ret : (List Int) → Option R) : Option R :=
  bif !host_Right a0 then ret (nilOf Int) else host_Put.loop0 (0 : Int) a0 [IntKind.wrap IntKind.u8 (Prod.fst a0), IntKind.wrap IntKind.u8 (Prod.fst (Prod.snd a0)), IntKind.wrap IntKind.u8 (Prod.fst (Prod.snd (Prod.snd a0))), IntKind.wrap IntKind.u8 (Prod.fst (Prod.snd (Prod.snd (Prod.snd a0)))), IntKind.wrap IntKind.u8 (Prod.fst (Prod.snd (Prod.snd (Prod.snd (Prod.snd a0)))))] fun e0 => ret e0
theorem host_Put.eq (a0 : Int × Int × Int × Int × Int × Int × Unit) : body Try.prog host_Put.C host_Put.env host_Put.L Try.f18 [⟨HoT, a0⟩] = host_Put.tree a0 (fun r0 => some ([⟨Ty.sl (Ty.int IntKind.u8), r0⟩] : List DVal)) := by kernel_rfl
def putBytes (h : Hos) : List Int := [IntKind.wrap .u8 h.1, IntKind.wrap .u8 h.2.1, IntKind.wrap .u8 h.2.2.1, IntKind.wrap .u8 h.2.2.2.1, IntKind.wrap .u8 h.2.2.2.2.1, IntKind.wrap .u8 (shr .u32 h.2.2.2.2.2.1 0), IntKind.wrap .u8 (shr .u32 h.2.2.2.2.2.1 8), IntKind.wrap .u8 (shr .u32 h.2.2.2.2.2.1 16), IntKind.wrap .u8 (shr .u32 h.2.2.2.2.2.1 24)]
def host_Put (h : Hos) : List Int := bif host_Right h then putBytes h else []
theorem host_Put.nice {R : Type} (h : Hos) (ret : List Int → Option R) : host_Put.tree h ret = ret (host_Put h) := by
  obtain ⟨o, D, A, B, C, m, u⟩ := h
  unfold host_Put.tree host_Put
  cases host_Right (o, D, A, B, C, m, u)
  · rfl
  · show host_Put.loop0 _ _ _ _ = ret (putBytes (o, D, A, B, C, m, u))
    kernel_rfl
def host_Put.ctr : Ctr := ctrOf [HoT] fun x => .ret [⟨Ty.sl (Ty.int IntKind.u8), host_Put (x.1)⟩]
theorem host_Put.known : Known Try.prog 18 host_Put.ctr :=
  known_plain host_Put.envOk mixed Try.func18 (by kernel_rfl) (by kernel_rfl) (byId (by kernel_rfl : loopIds Try.f18 = [0]) (by intro q hq; simp only [List.mem_cons, List.not_mem_nil, or_false] at hq; subst hq; first | exact host_Put.sum0_ok)) (noSpots (by kernel_rfl)) fun x rs h => by
    obtain ⟨a0, u⟩ := x
    cases u
    simp only [Cmd.val_ret] at h
    exact (host_Put.eq a0).trans ((host_Put.nice a0 (fun r0 => some ([⟨Ty.sl (Ty.int IntKind.u8), r0⟩] : List DVal))).trans h)

/-! ### ref5_Put -/
def ref5_Put.env : Env := envCons 17 ref5_Right.ctr <| envNil
theorem ref5_Put.envOk : EnvOk Try.prog ref5_Put.env := envOk_cons ref5_Right.known (envOk_nil _)
def ref5_Put.T0 : Tm := ⟨fill 0 38 [(1, Sl.ptr (1 : Nat) (nilOf Step)), (3, Sl.ref (23 : Nat)), (4, Sl.data (Ty.int IntKind.i64))], [{ k := (1 : Nat), t := HoT, vir := false }, { k := (23 : Nat), t := Ty.own (Ty.int IntKind.u8), vir := true }]⟩
def ref5_Put.X0_exit0 : Tm := ⟨fill 0 38 [(3, Sl.ref (23 : Nat))], [{ k := (23 : Nat), t := Ty.own (Ty.int IntKind.u8), vir := true }]⟩
def ref5_Put.round0 {R : Type} (v0 : Int) (v1 : Int × Int × Int × Int × Int × Int × Unit) (v2 : List Int) (next : Int → (Int × Int × Int × Int × Int × Int × Unit) → (List Int) → Option R) (kexit0 : (List Int) → Option R) : Option R :=
  bif decide (v0 < (4 : Int)) then bif decide ((0 : Int) ≤ IntKind.wrap IntKind.i64 ((8 : Int) * v0)) then bif roomOk (List.length v2 + (1 : Nat)) (1 : Nat) then next (IntKind.wrap IntKind.i64 (v0 + (1 : Int))) v1 (v2 ++ [IntKind.wrap IntKind.u8 (shr IntKind.u32 (Prod.fst (Prod.snd (Prod.snd (Prod.snd (Prod.snd (Prod.snd v1)))))) (IntKind.wrap IntKind.i64 ((8 : Int) * v0)))]) else none else none else kexit0 v2
def ref5_Put.R0 {R : Type} (kexit0 : (List Int) → Option R) : (Int × (Int × Int × Int × Int × Int × Int × Unit) × (List Int)) → ((Int × (Int × Int × Int × Int × Int × Int × Unit) × (List Int)) → Option R) → Option R := fun (v0, v1, v2) next => ref5_Put.round0 v0 v1 v2 (fun w0 w1 w2 => next (w0, w1, w2)) kexit0
theorem ref5_Put.R0_eq {R : Type} (kexit0 : (List Int) → Option R) (v0 : Int) (v1 : Int × Int × Int × Int × Int × Int × Unit) (v2 : List Int) (next : (Int × (Int × Int × Int × Int × Int × Int × Unit) × (List Int)) → Option R) : ref5_Put.R0 kexit0 (v0, v1, v2) next = ref5_Put.round0 v0 v1 v2 (fun w0 w1 w2 => next (w0, w1, w2)) kexit0 := rfl
def ref5_Put.loop0 {R : Type} (v0 : Int) (v1 : Int × Int × Int × Int × Int × Int × Unit) (v2 : List Int) (kexit0 : (List Int) → Option R) : Option R := lp (ref5_Put.R0 kexit0) 5 (v0, v1, v2)
theorem ref5_Put.loop0_ok {R : Type} (v0 : Int) (v1 : Int × Int × Int × Int × Int × Int × Unit) (v2 : List Int) (kexit0 : (List Int) → Option R) (r : R) (h : ref5_Put.loop0 v0 v1 v2 kexit0 = some r) : ∃ n, lp (ref5_Put.R0 kexit0) n (v0, v1, v2) = some r := ⟨5, h⟩
def ref5_Put.C : Cfg := { rows := [23], keep := [(0, [1, 3, 4], [1, 23]), (1000000, [2, 3], [23])], adopt := [] }
def ref5_Put.sum0 : FrV ref5_Put.T0.fr × StV ref5_Put.T0.st → (Ex → S → Option (List DVal)) → Option (List DVal) := fun ((v0, ()), (v1, v2, ())) K => ref5_Put.loop0 v0 v1 v2 (fun e0 => K (.exit 0) (pack ref5_Put.X0_exit0 ((()), (e0, ()))))
def ref5_Put.rnd0 : FrV ref5_Put.T0.fr × StV ref5_Put.T0.st → (FrV ref5_Put.T0.fr × StV ref5_Put.T0.st → Option (List DVal)) → (Ex → S → Option (List DVal)) → Option (List DVal) := fun ((v0, ()), (v1, v2, ())) next K => ref5_Put.round0 v0 v1 v2 (fun w0 w1 w2 => next ((w0, ()), (w1, w2, ()))) (fun e0 => K (.exit 0) (pack ref5_Put.X0_exit0 ((()), (e0, ()))))
def ref5_Put.L : Nat → Option Sum := fun i => if i = 0 then some (sumOf ref5_Put.T0 ref5_Put.sum0) else none
theorem ref5_Put.rnd0_eq : ∀ v (r : S → Option (List DVal)) (K : Ex → S → Option (List DVal)), exec Try.prog ref5_Put.C ref5_Put.env ref5_Put.L 0 (loopOf Try.f19 0) (pack ref5_Put.T0 v) (fun e s' => match e with | .normal => r (trim ref5_Put.C 0 s') | e => K e (trim ref5_Put.C (0 + 1000000) s')) = ref5_Put.rnd0 v (fun v' => r (pack ref5_Put.T0 v')) K :=
  fun ((v0, ()), (v1, v2, ())) r K => by kernel_rfl
theorem ref5_Put.lp0 (K : Ex → S → Option (List DVal)) : ∀ (n : Nat) (v0 : Int) (v1 : Int × Int × Int × Int × Int × Int × Unit) (v2 : List Int), lp (fun v next => ref5_Put.rnd0 v next K) n ((v0, ()), (v1, v2, ())) = lp (ref5_Put.R0 (fun e0 => K (.exit 0) (pack ref5_Put.X0_exit0 ((()), (e0, ()))))) n (v0, v1, v2) := by
  intro n
  induction n with
  | zero => intros; rfl
  | succ n ih =>
    intro v0 v1 v2
    show ref5_Put.round0 v0 v1 v2 (fun w0 w1 w2 => lp (fun v next => ref5_Put.rnd0 v next K) n ((w0, ()), (w1, w2, ()))) (fun e0 => K (.exit 0) (pack ref5_Put.X0_exit0 ((()), (e0, ())))) = ref5_Put.round0 v0 v1 v2 (fun w0 w1 w2 => lp (ref5_Put.R0 (fun e0 => K (.exit 0) (pack ref5_Put.X0_exit0 ((()), (e0, ()))))) n (w0, w1, w2)) (fun e0 => K (.exit 0) (pack ref5_Put.X0_exit0 ((()), (e0, ()))))
    simp only [ih]
theorem ref5_Put.sum0_ok : SumOk Try.prog ref5_Put.C ref5_Put.env ref5_Put.L 0 (loopOf Try.f19 0) := sumOk_lp (T := ref5_Put.T0) (rnd := ref5_Put.rnd0) (f := ref5_Put.sum0) rfl ref5_Put.rnd0_eq fun ((v0, ()), (v1, v2, ())) K r h => by
  obtain ⟨n, hn⟩ := ref5_Put.loop0_ok v0 v1 v2 (fun e0 => K (.exit 0) (pack ref5_Put.X0_exit0 ((()), (e0, ())))) r h
  exact ⟨n, by rw [ref5_Put.lp0]; exact hn⟩
def ref5_Put.tree {R : Type} (a0 : Int × Int × Int × Int × Int × Int × Unit) (ret : (List Int) → Option R) : Option R :=
  bif !ref5_Right a0 then ret (nilOf Int) else ref5_Put.loop0 (0 : Int) a0 [IntKind.wrap IntKind.u8 (Prod.fst a0), IntKind.wrap IntKind.u8 (Prod.fst (Prod.snd a0)), IntKind.wrap IntKind.u8 (Prod.fst (Prod.snd (Prod.snd a0))), IntKind.wrap IntKind.u8 (Prod.fst (Prod.snd (Prod.snd (Prod.snd a0)))), IntKind.wrap IntKind.u8 (Prod.fst (Prod.snd (Prod.snd (Prod.snd (Prod.snd a0)))))] fun e0 => ret e0
theorem ref5_Put.eq (a0 : Int × Int × Int × Int × Int × Int × Unit) : body Try.prog ref5_Put.C ref5_Put.env ref5_Put.L Try.f19 [⟨HoT, a0⟩] = ref5_Put.tree a0 (fun r0 => some ([⟨Ty.sl (Ty.int IntKind.u8), r0⟩] : List DVal)) := by kernel_rfl
def ref5_Put (h : Hos) : List Int := bif ref5_Right h then putBytes h else []
theorem ref5_Put.nice {R : Type} (h : Hos) (ret : List Int → Option R) : ref5_Put.tree h ret = ret (ref5_Put h) := by
  obtain ⟨o, D, A, B, C, m, u⟩ := h
  unfold ref5_Put.tree ref5_Put
  cases ref5_Right (o, D, A, B, C, m, u)
  · rfl
  · show ref5_Put.loop0 _ _ _ _ = ret (putBytes (o, D, A, B, C, m, u))
    kernel_rfl

def ref5_Put.ctr : Ctr := ctrOf [HoT] fun x => .ret [⟨Ty.sl (Ty.int IntKind.u8), ref5_Put (x.1)⟩]
theorem ref5_Put.known : Known Try.prog 19 ref5_Put.ctr :=
  known_plain ref5_Put.envOk mixed Try.func19 (by kernel_rfl) (by kernel_rfl) (byId (by kernel_rfl : loopIds Try.f19 = [0]) (by intro q hq; simp only [List.mem_cons, List.not_mem_nil, or_false] at hq; subst hq; first | exact ref5_Put.sum0_ok)) (noSpots (by kernel_rfl)) fun x rs h => by
    obtain ⟨a0, u⟩ := x
    cases u
    simp only [Cmd.val_ret] at h
    exact (ref5_Put.eq a0).trans ((ref5_Put.nice a0 (fun r0 => some ([⟨Ty.sl (Ty.int IntKind.u8), r0⟩] : List DVal))).trans h)
end
end Go.D.Ytbcjiicaekfjlaa
