import Derived.Test.YtmdnddoiopgboaaChecked
import Derived.Test.YtmdnddoiopgboaaDX
import Derived.KernelRfl
import Derived.Test.YtmdnddoiopgboaaLone3
namespace Go.D.Ytmdnddoiopgboaa
open Go.Proofs
set_option linter.unusedVariables false
set_option linter.unusedSimpArgs false
set_option maxRecDepth 100000
noncomputable section


/-! ### ref1_size -/
def ref1_size.env : Env := envNil
theorem ref1_size.envOk : EnvOk Try.prog ref1_size.env := envOk_nil _
def ref1_size.T2000001 : Tm := ⟨fill 0 10 [(0, Sl.data (Ty.int IntKind.u32))], []⟩
def ref1_size.X2000001_normal : Tm := ⟨fill 0 10 [(0, Sl.data (Ty.int IntKind.u32)), (8, Sl.data Ty.bool)], []⟩
def ref1_size.o2000001 {R : Type} (v0 : Int) (knormal : Int → Bool → Option R) : Option R :=
  bif v0 == (1 : Int) then knormal v0 true else knormal v0 (v0 == (2 : Int))
def ref1_size.s2000001 {R : Type} (v0 : Int) (knormal : Int → Bool → Option R) : Option R :=
  knormal v0 (v0 == (1 : Int) || v0 == (2 : Int))
theorem ref1_size.s2000001_eq {R : Type} (v0 : Int) (knormal : Int → Bool → Option R) : ref1_size.s2000001 v0 knormal = ref1_size.o2000001 v0 knormal := by
  unfold ref1_size.s2000001 ref1_size.o2000001
  (cases hc : v0 == (1 : Int) with | false => (first | rfl | simp_all) | true => (first | rfl | simp_all))
def ref1_size.C : Cfg := { rows := [], keep := [(2000001, [0], []), (12000001, [0, 8], [])], adopt := [] }
def ref1_size.sum2000001 : FrV ref1_size.T2000001.fr × StV ref1_size.T2000001.st → (Ex → S → Option (List DVal)) → Option (List DVal) := fun ((v0, ()), (())) K => ref1_size.s2000001 v0 (fun e0 e1 => K .normal (pack ref1_size.X2000001_normal ((e0, e1, ()), (()))))
def ref1_size.L : Nat → Option Sum := fun i => if i = 2000001 then some (sumOf ref1_size.T2000001 ref1_size.sum2000001) else none
theorem ref1_size.x2000001 : ∀ v (K : Ex → S → Option (List DVal)), exec1 Try.prog ref1_size.C ref1_size.env ref1_size.L (spotOf Try.f39 2000001).2.1 (spotOf Try.f39 2000001).2.2 (pack ref1_size.T2000001 v) (fun e s' => K e (trim ref1_size.C (2000001 + 10000000) s')) = (fun (((v0, ()), (())) : FrV ref1_size.T2000001.fr × StV ref1_size.T2000001.st) => ref1_size.o2000001 v0 (fun e0 e1 => K .normal (pack ref1_size.X2000001_normal ((e0, e1, ()), (()))))) v :=
  fun ((v0, ()), (())) K => by kernel_rfl
theorem ref1_size.sum2000001_ok : SpotOk Try.prog ref1_size.C ref1_size.env ref1_size.L (spotOf Try.f39 2000001) := spotOk_of (T := ref1_size.T2000001) (q := 2000001) (f := ref1_size.sum2000001) (by kernel_rfl) (by kernel_rfl) fun ((v0, ()), (())) K r h => (ref1_size.x2000001 _ K).trans ((ref1_size.s2000001_eq v0 (fun e0 e1 => K .normal (pack ref1_size.X2000001_normal ((e0, e1, ()), (()))))).symm.trans h)
def ref1_size.tree {R : Type} (a0 : Int) (ret : Int → Option R) : Option R :=
  bif a0 == (1 : Int) || a0 == (2 : Int) then ret a0 else ret (4 : Int)
theorem ref1_size.eq (a0 : Int) : body Try.prog ref1_size.C ref1_size.env ref1_size.L Try.f39 [⟨Ty.int IntKind.u32, a0⟩] = ref1_size.tree a0 (fun r0 => some ([⟨Ty.int IntKind.u32, r0⟩] : List DVal)) := by kernel_rfl
def ref1_size (a0 : Int) : Int :=
  bif a0 == (1 : Int) || a0 == (2 : Int) then a0 else (4 : Int)
theorem ref1_size.nice {R : Type} (a0 : Int) (ret : Int → Option R) : ref1_size.tree a0 ret = ret (ref1_size a0) := by
  unfold ref1_size.tree ref1_size
  simp only [Bool.apply_cond ret]
def ref1_size.ctr : Ctr := ctrOf [Ty.int IntKind.u32] fun x => .ret [⟨Ty.int IntKind.u32, ref1_size (x.1)⟩]
theorem ref1_size.known : Known Try.prog 39 ref1_size.ctr :=
  known_plain ref1_size.envOk mixed Try.func39 (by kernel_rfl) (by kernel_rfl) (noLoops (by kernel_rfl)) (bySpot (ids := [2000001]) (by kernel_rfl) (by intro q hq; simp only [List.mem_cons, List.not_mem_nil, or_false] at hq; subst hq; first | exact ref1_size.sum2000001_ok)) fun x rs h => by
    obtain ⟨a0, u⟩ := x
    cases u
    simp only [Cmd.val_ret] at h
    exact (ref1_size.eq a0).trans ((ref1_size.nice a0 (fun r0 => some ([⟨Ty.int IntKind.u32, r0⟩] : List DVal))).trans h)

/-! ### ref1_Check -/
def ref1_Check.env : Env := envNil
theorem ref1_Check.envOk : EnvOk Try.prog ref1_Check.env := envOk_nil _
def regB (r : Reg) : Bool := decide ((0 ≤ r.1 ∧ r.1 < 4294967296) ∧ 0 ≤ r.2.1 ∧ r.2.1 < 4294967296) && Nat.ble r.2.2.2.2.2.2.1.length 4611686018427387903
def regsB (l : List Reg) : Bool := Nat.ble l.length 10 && l.all regB
def regs_short (l : List Reg) : Prop := ∀ r ∈ l, r.2.2.2.2.2.2.1.length < 4611686018427387904
theorem regsB_u {l : List Reg} (h : regsB l = true) : l.length ≤ 10 ∧ regs_u32 l ∧ regs_short l := by
  unfold regsB regB at h
  simp only [Bool.and_eq_true, List.all_eq_true, decide_eq_true_eq] at h
  exact ⟨Nat.le_of_ble_eq_true h.1, fun r hr => (h.2 r hr).1, fun r hr => Nat.lt_succ_of_le (Nat.le_of_ble_eq_true (h.2 r hr).2)⟩
theorem regsB_pre {l : List Reg} (h : regsB l = true) : region_Check.pre l = true := Nat.ble_eq_true_of_le (by have := (regsB_u h).1; omega)
def ref1_sum (l : List Reg) (s : Int) : Int := l.foldl (fun s r => IntKind.wrap .i64 (s + IntKind.wrap .i64 r.2.1)) s
theorem sum_steps (s x n : Int) (u1 : 0 ≤ x) (u2 : x < 4294967296) (h0 : 0 ≤ s) (hn : 0 ≤ n) (h1 : s + (n + 1) * 4294967296 < 4611686018427387904) : IntKind.wrap .i64 (s + IntKind.wrap .i64 x) = s + x ∧ IntKind.wrap .u64 (s + IntKind.wrap .u64 x) = s + x ∧ 0 ≤ s + x ∧ s + x + n * 4294967296 < 4611686018427387904 := by
  have w1 : IntKind.wrap .i64 x = x := by rw [IntKind.wrap_i64]; omega
  have w2 : IntKind.wrap .u64 x = x := by rw [IntKind.wrap_u64]; omega
  rw [w1, w2, IntKind.wrap_i64, IntKind.wrap_u64]
  omega
theorem ref1_sum_eq : ∀ (l : List Reg) (s : Int), regs_u32 l → 0 ≤ s → s + l.length * 4294967296 < 4611686018427387904 → ref1_sum l s = region_sum l s
  | [], _, _, _, _ => rfl
  | r :: l, s, hu, h0, h1 => by
    obtain ⟨u1, u2⟩ := (hu r (by simp)).2
    simp only [List.length_cons] at h1
    push_cast at h1
    obtain ⟨e1, e2, e3, e4⟩ := sum_steps s r.2.1 l.length u1 u2 h0 (by omega) h1
    have key := ref1_sum_eq l (s + r.2.1) (fun z hz => hu z (by simp [hz])) e3 e4
    unfold ref1_sum region_sum at key ⊢
    rw [List.foldl_cons, List.foldl_cons, e1, e2]
    exact key
def ref1_Check.T0 : Tm := ⟨fill 0 85 [(0, Sl.data (Ty.sl RT)), (3, Sl.data (Ty.int IntKind.i64)), (4, Sl.data (Ty.int IntKind.i64))], []⟩
def ref1_Check.X0_exit0 : Tm := ⟨fill 0 85 [(0, Sl.data (Ty.sl RT)), (3, Sl.data (Ty.int IntKind.i64))], []⟩
def ref1_Check.round0 {R : Type} (v0 : List (Int × Int × Bool × Bool × Bool × Bool × List Int × Unit)) (v1 : Int) (v2 : Int) (next : (List (Int × Int × Bool × Bool × Bool × Bool × List Int × Unit)) → Int → Int → Option R) (kexit0 : (List (Int × Int × Bool × Bool × Bool × Bool × List Int × Unit)) → Int → Option R) : Option R :=
  bif decide (v2 < ↑(List.length v0)) then bif decide ((0 : Int) ≤ v2) && decide (v2 < ↑(List.length v0)) then next v0 (IntKind.wrap IntKind.i64 (v1 + IntKind.wrap IntKind.i64 (Prod.fst (Prod.snd (List.getD v0 (Int.toNat v2) (Ty.dflt RT)))))) (IntKind.wrap IntKind.i64 (v2 + (1 : Int))) else none else kexit0 v0 v1
def ref1_Check.R0 {R : Type} (kexit0 : (List (Int × Int × Bool × Bool × Bool × Bool × List Int × Unit)) → Int → Option R) : ((List (Int × Int × Bool × Bool × Bool × Bool × List Int × Unit)) × Int × Int) → (((List (Int × Int × Bool × Bool × Bool × Bool × List Int × Unit)) × Int × Int) → Option R) → Option R := fun (v0, v1, v2) next => ref1_Check.round0 v0 v1 v2 (fun w0 w1 w2 => next (w0, w1, w2)) kexit0
theorem ref1_Check.R0_eq {R : Type} (kexit0 : (List (Int × Int × Bool × Bool × Bool × Bool × List Int × Unit)) → Int → Option R) (v0 : List (Int × Int × Bool × Bool × Bool × Bool × List Int × Unit)) (v1 : Int) (v2 : Int) (next : ((List (Int × Int × Bool × Bool × Bool × Bool × List Int × Unit)) × Int × Int) → Option R) : ref1_Check.R0 kexit0 (v0, v1, v2) next = ref1_Check.round0 v0 v1 v2 (fun w0 w1 w2 => next (w0, w1, w2)) kexit0 := rfl
def ref1_Check.loop0 {R : Type} (v0 : List (Int × Int × Bool × Bool × Bool × Bool × List Int × Unit)) (v1 : Int) (v2 : Int) (kexit0 : (List (Int × Int × Bool × Bool × Bool × Bool × List Int × Unit)) → Int → Option R) : Option R :=
  if v0.length < 4611686018427387904 ∧ 0 ≤ v2 ∧ v2 ≤ v0.length then kexit0 v0 (ref1_sum (v0.drop v2.toNat) v1) else none
theorem ref1_Check.loop0_ok {R : Type} (v0 : List (Int × Int × Bool × Bool × Bool × Bool × List Int × Unit)) (v1 : Int) (v2 : Int) (kexit0 : (List (Int × Int × Bool × Bool × Bool × Bool × List Int × Unit)) → Int → Option R) (r : R) (h : ref1_Check.loop0 v0 v1 v2 kexit0 = some r) : ∃ n, lp (ref1_Check.R0 kexit0) n (v0, v1, v2) = some r := by
  unfold ref1_Check.loop0 at h
  split at h <;> try (cases h; done)
  rename_i hc
  obtain ⟨h1, h2, h3⟩ := hc
  rw [← h]
  refine lp_spec (round := ref1_Check.R0 kexit0) (spec := fun (l, s, i) => kexit0 l (ref1_sum (l.drop i.toNat) s)) (inv := fun (l, s, i) => l = v0 ∧ 0 ≤ i ∧ i ≤ v0.length) (μ := fun (l, s, i) => (v0.length - i).toNat) ?_ (v0, v1, v2) ⟨rfl, h2, h3⟩
  rintro ⟨l, s, i⟩ ⟨rfl, k1, k2⟩ next hn
  rw [ref1_Check.R0_eq, ref1_Check.round0]
  by_cases hi : i < (l.length : Int)
  · obtain ⟨x, hx, hd⟩ := getD_at (d := Ty.dflt RT) k1 hi
    have hnx := hn (l, IntKind.wrap .i64 (s + IntKind.wrap .i64 x.2.1), i + 1) ⟨rfl, by omega, by omega⟩ (by simp only; omega)
    rw [decide_eq_true hi, decide_eq_true k1, hx, wrap_next k1 hi (by omega)]
    dsimp only
    simp only [Bool.and_self, Bool.cond_true]
    rw [hnx, hd]
    rfl
  · rw [decide_eq_false hi]
    dsimp only
    rw [List.drop_of_length_le (by omega)]
    rfl
theorem len_cmp (n : Nat) (x : Int) (h0 : 0 ≤ x) (h1 : x < 4294967296) (hn : n < 4611686018427387904) : decide (IntKind.wrap .u64 (n : Int) > IntKind.wrap .u64 x) = decide ((n : Int) > IntKind.wrap .i64 x) := by
  rw [show IntKind.wrap .u64 (n : Int) = n by rw [IntKind.wrap_u64]; omega, show IntKind.wrap .u64 x = x by rw [IntKind.wrap_u64]; omega, show IntKind.wrap .i64 x = x by rw [IntKind.wrap_i64]; omega]
theorem first_cmp (i f b : Int) (hi : 0 ≤ i) (hb : i = 0 → b = 0) (h0 : 0 ≤ f) (h1 : f < 4294967296) : (decide (i > 0) && decide (IntKind.wrap .u64 f < b)) = decide (IntKind.wrap .u64 f < b) := by
  rw [show IntKind.wrap .u64 f = f by rw [IntKind.wrap_u64]; omega]
  by_cases h : i = 0
  · rw [hb h, decide_eq_false (by omega : ¬ f < 0), Bool.and_false]
  · rw [decide_eq_true (by omega : i > 0), Bool.true_and]
def ref1_Check.T2000006 : Tm := ⟨fill 0 85 [(0, Sl.data (Ty.sl RT)), (3, Sl.data (Ty.int IntKind.i64))], []⟩
def ref1_Check.X2000006_normal : Tm := ⟨fill 0 85 [(0, Sl.data (Ty.sl RT)), (29, Sl.data Ty.bool)], []⟩
def ref1_Check.o2000006 {R : Type} (v0 : List (Int × Int × Bool × Bool × Bool × Bool × List Int × Unit)) (v1 : Int) (knormal : (List (Int × Int × Bool × Bool × Bool × Bool × List Int × Unit)) → Bool → Option R) : Option R :=
  bif decide (↑(List.length v0) > (8 : Int)) then knormal v0 true else knormal v0 (decide (v1 > (65536 : Int)))
def ref1_Check.s2000006 {R : Type} (v0 : List (Int × Int × Bool × Bool × Bool × Bool × List Int × Unit)) (v1 : Int) (knormal : (List (Int × Int × Bool × Bool × Bool × Bool × List Int × Unit)) → Bool → Option R) : Option R :=
  knormal v0 (decide (↑(List.length v0) > (8 : Int)) || decide (v1 > (65536 : Int)))
theorem ref1_Check.s2000006_eq {R : Type} (v0 : List (Int × Int × Bool × Bool × Bool × Bool × List Int × Unit)) (v1 : Int) (knormal : (List (Int × Int × Bool × Bool × Bool × Bool × List Int × Unit)) → Bool → Option R) : ref1_Check.s2000006 v0 v1 knormal = ref1_Check.o2000006 v0 v1 knormal := by
  unfold ref1_Check.s2000006 ref1_Check.o2000006
  (cases hc : decide (↑(List.length v0) > (8 : Int)) with | false => (first | rfl | simp_all) | true => (first | rfl | simp_all))
def ref1_Check.T2000018 : Tm := ⟨fill 0 85 [(0, Sl.data (Ty.sl RT)), (5, Sl.data (Ty.int IntKind.u64)), (6, Sl.data (Ty.int IntKind.i64)), (7, Sl.ptr (7 : Nat) (nilOf Step)), (8, Sl.data (Ty.int IntKind.u64))], [{ k := (7 : Nat), t := RT, vir := false }]⟩
def ref1_Check.X2000018_normal : Tm := ⟨fill 0 85 [(0, Sl.data (Ty.sl RT)), (6, Sl.data (Ty.int IntKind.i64)), (7, Sl.ptr (7 : Nat) (nilOf Step)), (8, Sl.data (Ty.int IntKind.u64)), (47, Sl.data Ty.bool)], [{ k := (7 : Nat), t := RT, vir := false }]⟩
def ref1_Check.o2000018 {R : Type} (v0 : List (Int × Int × Bool × Bool × Bool × Bool × List Int × Unit)) (v1 : Int) (v2 : Int) (v3 : Int) (v4 : Int × Int × Bool × Bool × Bool × Bool × List Int × Unit) (knormal : (List (Int × Int × Bool × Bool × Bool × Bool × List Int × Unit)) → Int → Int → Bool → (Int × Int × Bool × Bool × Bool × Bool × List Int × Unit) → Option R) : Option R :=
  bif decide (v2 > (0 : Int)) then knormal v0 v2 v3 (decide (IntKind.wrap IntKind.u64 (Prod.fst v4) < v1)) v4 else knormal v0 v2 v3 false v4
def ref1_Check.s2000018 {R : Type} (v0 : List (Int × Int × Bool × Bool × Bool × Bool × List Int × Unit)) (v1 : Int) (v2 : Int) (v3 : Int) (v4 : Int × Int × Bool × Bool × Bool × Bool × List Int × Unit) (knormal : (List (Int × Int × Bool × Bool × Bool × Bool × List Int × Unit)) → Int → Int → Bool → (Int × Int × Bool × Bool × Bool × Bool × List Int × Unit) → Option R) : Option R :=
  knormal v0 v2 v3 (decide (v2 > (0 : Int)) && decide (IntKind.wrap IntKind.u64 (Prod.fst v4) < v1)) v4
theorem ref1_Check.s2000018_eq {R : Type} (v0 : List (Int × Int × Bool × Bool × Bool × Bool × List Int × Unit)) (v1 : Int) (v2 : Int) (v3 : Int) (v4 : Int × Int × Bool × Bool × Bool × Bool × List Int × Unit) (knormal : (List (Int × Int × Bool × Bool × Bool × Bool × List Int × Unit)) → Int → Int → Bool → (Int × Int × Bool × Bool × Bool × Bool × List Int × Unit) → Option R) : ref1_Check.s2000018 v0 v1 v2 v3 v4 knormal = ref1_Check.o2000018 v0 v1 v2 v3 v4 knormal := by
  unfold ref1_Check.s2000018 ref1_Check.o2000018
  (cases hc : decide (v2 > (0 : Int)) with | false => (first | rfl | simp_all) | true => (first | rfl | simp_all))
def ref1_Check.T2000020 : Tm := ⟨fill 0 85 [(0, Sl.data (Ty.sl RT)), (6, Sl.data (Ty.int IntKind.i64)), (7, Sl.ptr (7 : Nat) (nilOf Step)), (8, Sl.data (Ty.int IntKind.u64))], [{ k := (7 : Nat), t := RT, vir := false }]⟩
def ref1_Check.X2000020_normal : Tm := ⟨fill 0 85 [(0, Sl.data (Ty.sl RT)), (6, Sl.data (Ty.int IntKind.i64)), (8, Sl.data (Ty.int IntKind.u64)), (47, Sl.data Ty.bool)], []⟩
def ref1_Check.o2000020 {R : Type} (v0 : List (Int × Int × Bool × Bool × Bool × Bool × List Int × Unit)) (v1 : Int) (v2 : Int) (v3 : Int × Int × Bool × Bool × Bool × Bool × List Int × Unit) (knormal : (List (Int × Int × Bool × Bool × Bool × Bool × List Int × Unit)) → Int → Int → Bool → Option R) : Option R :=
  bif Prod.fst (Prod.snd (Prod.snd (Prod.snd (Prod.snd v3)))) then knormal v0 v1 v2 (Prod.fst (Prod.snd (Prod.snd (Prod.snd (Prod.snd (Prod.snd v3)))))) else knormal v0 v1 v2 false
def ref1_Check.s2000020 {R : Type} (v0 : List (Int × Int × Bool × Bool × Bool × Bool × List Int × Unit)) (v1 : Int) (v2 : Int) (v3 : Int × Int × Bool × Bool × Bool × Bool × List Int × Unit) (knormal : (List (Int × Int × Bool × Bool × Bool × Bool × List Int × Unit)) → Int → Int → Bool → Option R) : Option R :=
  knormal v0 v1 v2 (bif Prod.fst (Prod.snd (Prod.snd (Prod.snd (Prod.snd v3)))) then Prod.fst (Prod.snd (Prod.snd (Prod.snd (Prod.snd (Prod.snd v3))))) else false)
theorem ref1_Check.s2000020_eq {R : Type} (v0 : List (Int × Int × Bool × Bool × Bool × Bool × List Int × Unit)) (v1 : Int) (v2 : Int) (v3 : Int × Int × Bool × Bool × Bool × Bool × List Int × Unit) (knormal : (List (Int × Int × Bool × Bool × Bool × Bool × List Int × Unit)) → Int → Int → Bool → Option R) : ref1_Check.s2000020 v0 v1 v2 v3 knormal = ref1_Check.o2000020 v0 v1 v2 v3 knormal := by
  unfold ref1_Check.s2000020 ref1_Check.o2000020
  (cases hc : Prod.fst (Prod.snd (Prod.snd (Prod.snd (Prod.snd v3)))) with | false => (first | rfl | simp_all) | true => (first | rfl | simp_all))
def ref1_Check.T3000020 : Tm := ⟨fill 0 85 [(0, Sl.data (Ty.sl RT)), (6, Sl.data (Ty.int IntKind.i64)), (7, Sl.ptr (7 : Nat) (nilOf Step)), (8, Sl.data (Ty.int IntKind.u64)), (47, Sl.data Ty.bool)], [{ k := (7 : Nat), t := RT, vir := false }]⟩
def ref1_Check.X3000020_normal : Tm := ⟨fill 0 85 [(0, Sl.data (Ty.sl RT)), (6, Sl.data (Ty.int IntKind.i64)), (8, Sl.data (Ty.int IntKind.u64)), (47, Sl.data Ty.bool)], []⟩
def ref1_Check.o3000020 {R : Type} (v0 : List (Int × Int × Bool × Bool × Bool × Bool × List Int × Unit)) (v1 : Int) (v2 : Int) (v3 : Bool) (v4 : Int × Int × Bool × Bool × Bool × Bool × List Int × Unit) (knormal : (List (Int × Int × Bool × Bool × Bool × Bool × List Int × Unit)) → Int → Int → Bool → Option R) : Option R :=
  bif v3 then knormal v0 v1 v2 v3 else knormal v0 v1 v2 (bif Prod.fst (Prod.snd (Prod.snd (Prod.snd (Prod.snd v4)))) then Prod.fst (Prod.snd (Prod.snd (Prod.snd (Prod.snd (Prod.snd v4))))) else false)
def ref1_Check.s3000020 {R : Type} (v0 : List (Int × Int × Bool × Bool × Bool × Bool × List Int × Unit)) (v1 : Int) (v2 : Int) (v3 : Bool) (v4 : Int × Int × Bool × Bool × Bool × Bool × List Int × Unit) (knormal : (List (Int × Int × Bool × Bool × Bool × Bool × List Int × Unit)) → Int → Int → Bool → Option R) : Option R :=
  knormal v0 v1 v2 (bif v3 then v3 else bif Prod.fst (Prod.snd (Prod.snd (Prod.snd (Prod.snd v4)))) then Prod.fst (Prod.snd (Prod.snd (Prod.snd (Prod.snd (Prod.snd v4))))) else false)
theorem ref1_Check.s3000020_eq {R : Type} (v0 : List (Int × Int × Bool × Bool × Bool × Bool × List Int × Unit)) (v1 : Int) (v2 : Int) (v3 : Bool) (v4 : Int × Int × Bool × Bool × Bool × Bool × List Int × Unit) (knormal : (List (Int × Int × Bool × Bool × Bool × Bool × List Int × Unit)) → Int → Int → Bool → Option R) : ref1_Check.s3000020 v0 v1 v2 v3 v4 knormal = ref1_Check.o3000020 v0 v1 v2 v3 v4 knormal := by
  unfold ref1_Check.s3000020 ref1_Check.o3000020
  (cases hc : v3 with | false => (first | rfl | simp_all) | true => (first | rfl | simp_all))
def ref1_Check.T3000019 : Tm := ⟨fill 0 85 [(0, Sl.data (Ty.sl RT)), (6, Sl.data (Ty.int IntKind.i64)), (7, Sl.ptr (7 : Nat) (nilOf Step)), (8, Sl.data (Ty.int IntKind.u64)), (47, Sl.data Ty.bool)], [{ k := (7 : Nat), t := RT, vir := false }]⟩
def ref1_Check.X3000019_normal : Tm := ⟨fill 0 85 [(0, Sl.data (Ty.sl RT)), (6, Sl.data (Ty.int IntKind.i64)), (8, Sl.data (Ty.int IntKind.u64)), (47, Sl.data Ty.bool)], []⟩
def ref1_Check.o3000019 {R : Type} (v0 : List (Int × Int × Bool × Bool × Bool × Bool × List Int × Unit)) (v1 : Int) (v2 : Int) (v3 : Bool) (v4 : Int × Int × Bool × Bool × Bool × Bool × List Int × Unit) (knormal : (List (Int × Int × Bool × Bool × Bool × Bool × List Int × Unit)) → Int → Int → Bool → Option R) : Option R :=
  bif v3 then knormal v0 v1 v2 v3 else knormal v0 v1 v2 (bif decide (IntKind.wrap IntKind.u64 ↑(List.length (Prod.fst (Prod.snd (Prod.snd (Prod.snd (Prod.snd (Prod.snd (Prod.snd v4)))))))) > IntKind.wrap IntKind.u64 (Prod.fst (Prod.snd v4))) then decide (IntKind.wrap IntKind.u64 ↑(List.length (Prod.fst (Prod.snd (Prod.snd (Prod.snd (Prod.snd (Prod.snd (Prod.snd v4)))))))) > IntKind.wrap IntKind.u64 (Prod.fst (Prod.snd v4))) else bif Prod.fst (Prod.snd (Prod.snd (Prod.snd (Prod.snd v4)))) then Prod.fst (Prod.snd (Prod.snd (Prod.snd (Prod.snd (Prod.snd v4))))) else false)
def ref1_Check.s3000019 {R : Type} (v0 : List (Int × Int × Bool × Bool × Bool × Bool × List Int × Unit)) (v1 : Int) (v2 : Int) (v3 : Bool) (v4 : Int × Int × Bool × Bool × Bool × Bool × List Int × Unit) (knormal : (List (Int × Int × Bool × Bool × Bool × Bool × List Int × Unit)) → Int → Int → Bool → Option R) : Option R :=
  knormal v0 v1 v2 (bif v3 then v3 else bif decide (IntKind.wrap IntKind.u64 ↑(List.length (Prod.fst (Prod.snd (Prod.snd (Prod.snd (Prod.snd (Prod.snd (Prod.snd v4)))))))) > IntKind.wrap IntKind.u64 (Prod.fst (Prod.snd v4))) then decide (IntKind.wrap IntKind.u64 ↑(List.length (Prod.fst (Prod.snd (Prod.snd (Prod.snd (Prod.snd (Prod.snd (Prod.snd v4)))))))) > IntKind.wrap IntKind.u64 (Prod.fst (Prod.snd v4))) else bif Prod.fst (Prod.snd (Prod.snd (Prod.snd (Prod.snd v4)))) then Prod.fst (Prod.snd (Prod.snd (Prod.snd (Prod.snd (Prod.snd v4))))) else false)
theorem ref1_Check.s3000019_eq {R : Type} (v0 : List (Int × Int × Bool × Bool × Bool × Bool × List Int × Unit)) (v1 : Int) (v2 : Int) (v3 : Bool) (v4 : Int × Int × Bool × Bool × Bool × Bool × List Int × Unit) (knormal : (List (Int × Int × Bool × Bool × Bool × Bool × List Int × Unit)) → Int → Int → Bool → Option R) : ref1_Check.s3000019 v0 v1 v2 v3 v4 knormal = ref1_Check.o3000019 v0 v1 v2 v3 v4 knormal := by
  unfold ref1_Check.s3000019 ref1_Check.o3000019
  (cases hc : v3 with | false => (first | rfl | simp_all) | true => (first | rfl | simp_all))
def ref1_Check.T3000018 : Tm := ⟨fill 0 85 [(0, Sl.data (Ty.sl RT)), (5, Sl.data (Ty.int IntKind.u64)), (6, Sl.data (Ty.int IntKind.i64)), (7, Sl.ptr (7 : Nat) (nilOf Step)), (8, Sl.data (Ty.int IntKind.u64)), (47, Sl.data Ty.bool)], [{ k := (7 : Nat), t := RT, vir := false }]⟩
def ref1_Check.X3000018_normal : Tm := ⟨fill 0 85 [(0, Sl.data (Ty.sl RT)), (6, Sl.data (Ty.int IntKind.i64)), (8, Sl.data (Ty.int IntKind.u64)), (47, Sl.data Ty.bool)], []⟩
def ref1_Check.o3000018 {R : Type} (v0 : List (Int × Int × Bool × Bool × Bool × Bool × List Int × Unit)) (v1 : Int) (v2 : Int) (v3 : Int) (v4 : Bool) (v5 : Int × Int × Bool × Bool × Bool × Bool × List Int × Unit) (knormal : (List (Int × Int × Bool × Bool × Bool × Bool × List Int × Unit)) → Int → Int → Bool → Option R) : Option R :=
  bif v4 then knormal v0 v2 v3 v4 else knormal v0 v2 v3 (bif decide (v2 > (0 : Int)) && decide (IntKind.wrap IntKind.u64 (Prod.fst v5) < v1) then decide (v2 > (0 : Int)) && decide (IntKind.wrap IntKind.u64 (Prod.fst v5) < v1) else bif decide (IntKind.wrap IntKind.u64 ↑(List.length (Prod.fst (Prod.snd (Prod.snd (Prod.snd (Prod.snd (Prod.snd (Prod.snd v5)))))))) > IntKind.wrap IntKind.u64 (Prod.fst (Prod.snd v5))) then decide (IntKind.wrap IntKind.u64 ↑(List.length (Prod.fst (Prod.snd (Prod.snd (Prod.snd (Prod.snd (Prod.snd (Prod.snd v5)))))))) > IntKind.wrap IntKind.u64 (Prod.fst (Prod.snd v5))) else bif Prod.fst (Prod.snd (Prod.snd (Prod.snd (Prod.snd v5)))) then Prod.fst (Prod.snd (Prod.snd (Prod.snd (Prod.snd (Prod.snd v5))))) else false)
def ref1_Check.s3000018 {R : Type} (v0 : List (Int × Int × Bool × Bool × Bool × Bool × List Int × Unit)) (v1 : Int) (v2 : Int) (v3 : Int) (v4 : Bool) (v5 : Int × Int × Bool × Bool × Bool × Bool × List Int × Unit) (knormal : (List (Int × Int × Bool × Bool × Bool × Bool × List Int × Unit)) → Int → Int → Bool → Option R) : Option R :=
  knormal v0 v2 v3 (bif v4 then v4 else bif decide (v2 > (0 : Int)) && decide (IntKind.wrap IntKind.u64 (Prod.fst v5) < v1) then decide (v2 > (0 : Int)) && decide (IntKind.wrap IntKind.u64 (Prod.fst v5) < v1) else bif decide (IntKind.wrap IntKind.u64 ↑(List.length (Prod.fst (Prod.snd (Prod.snd (Prod.snd (Prod.snd (Prod.snd (Prod.snd v5)))))))) > IntKind.wrap IntKind.u64 (Prod.fst (Prod.snd v5))) then decide (IntKind.wrap IntKind.u64 ↑(List.length (Prod.fst (Prod.snd (Prod.snd (Prod.snd (Prod.snd (Prod.snd (Prod.snd v5)))))))) > IntKind.wrap IntKind.u64 (Prod.fst (Prod.snd v5))) else bif Prod.fst (Prod.snd (Prod.snd (Prod.snd (Prod.snd v5)))) then Prod.fst (Prod.snd (Prod.snd (Prod.snd (Prod.snd (Prod.snd v5))))) else false)
theorem ref1_Check.s3000018_eq {R : Type} (v0 : List (Int × Int × Bool × Bool × Bool × Bool × List Int × Unit)) (v1 : Int) (v2 : Int) (v3 : Int) (v4 : Bool) (v5 : Int × Int × Bool × Bool × Bool × Bool × List Int × Unit) (knormal : (List (Int × Int × Bool × Bool × Bool × Bool × List Int × Unit)) → Int → Int → Bool → Option R) : ref1_Check.s3000018 v0 v1 v2 v3 v4 v5 knormal = ref1_Check.o3000018 v0 v1 v2 v3 v4 v5 knormal := by
  unfold ref1_Check.s3000018 ref1_Check.o3000018
  (cases hc : v4 with | false => (first | rfl | simp_all) | true => (first | rfl | simp_all))
def ref1_Check.T3000017 : Tm := ⟨fill 0 85 [(0, Sl.data (Ty.sl RT)), (5, Sl.data (Ty.int IntKind.u64)), (6, Sl.data (Ty.int IntKind.i64)), (7, Sl.ptr (7 : Nat) (nilOf Step)), (8, Sl.data (Ty.int IntKind.u64)), (47, Sl.data Ty.bool)], [{ k := (7 : Nat), t := RT, vir := false }]⟩
def ref1_Check.X3000017_normal : Tm := ⟨fill 0 85 [(0, Sl.data (Ty.sl RT)), (6, Sl.data (Ty.int IntKind.i64)), (8, Sl.data (Ty.int IntKind.u64)), (47, Sl.data Ty.bool)], []⟩
def ref1_Check.o3000017 {R : Type} (v0 : List (Int × Int × Bool × Bool × Bool × Bool × List Int × Unit)) (v1 : Int) (v2 : Int) (v3 : Int) (v4 : Bool) (v5 : Int × Int × Bool × Bool × Bool × Bool × List Int × Unit) (knormal : (List (Int × Int × Bool × Bool × Bool × Bool × List Int × Unit)) → Int → Int → Bool → Option R) : Option R :=
  bif v4 then knormal v0 v2 v3 v4 else knormal v0 v2 v3 (bif decide (v3 > (4294963200 : Int)) then decide (v3 > (4294963200 : Int)) else bif decide (v2 > (0 : Int)) && decide (IntKind.wrap IntKind.u64 (Prod.fst v5) < v1) then decide (v2 > (0 : Int)) && decide (IntKind.wrap IntKind.u64 (Prod.fst v5) < v1) else bif decide (IntKind.wrap IntKind.u64 ↑(List.length (Prod.fst (Prod.snd (Prod.snd (Prod.snd (Prod.snd (Prod.snd (Prod.snd v5)))))))) > IntKind.wrap IntKind.u64 (Prod.fst (Prod.snd v5))) then decide (IntKind.wrap IntKind.u64 ↑(List.length (Prod.fst (Prod.snd (Prod.snd (Prod.snd (Prod.snd (Prod.snd (Prod.snd v5)))))))) > IntKind.wrap IntKind.u64 (Prod.fst (Prod.snd v5))) else bif Prod.fst (Prod.snd (Prod.snd (Prod.snd (Prod.snd v5)))) then Prod.fst (Prod.snd (Prod.snd (Prod.snd (Prod.snd (Prod.snd v5))))) else false)
def ref1_Check.s3000017 {R : Type} (v0 : List (Int × Int × Bool × Bool × Bool × Bool × List Int × Unit)) (v1 : Int) (v2 : Int) (v3 : Int) (v4 : Bool) (v5 : Int × Int × Bool × Bool × Bool × Bool × List Int × Unit) (knormal : (List (Int × Int × Bool × Bool × Bool × Bool × List Int × Unit)) → Int → Int → Bool → Option R) : Option R :=
  knormal v0 v2 v3 (bif v4 then v4 else bif decide (v3 > (4294963200 : Int)) then decide (v3 > (4294963200 : Int)) else bif decide (v2 > (0 : Int)) && decide (IntKind.wrap IntKind.u64 (Prod.fst v5) < v1) then decide (v2 > (0 : Int)) && decide (IntKind.wrap IntKind.u64 (Prod.fst v5) < v1) else bif decide (IntKind.wrap IntKind.u64 ↑(List.length (Prod.fst (Prod.snd (Prod.snd (Prod.snd (Prod.snd (Prod.snd (Prod.snd v5)))))))) > IntKind.wrap IntKind.u64 (Prod.fst (Prod.snd v5))) then decide (IntKind.wrap IntKind.u64 ↑(List.length (Prod.fst (Prod.snd (Prod.snd (Prod.snd (Prod.snd (Prod.snd (Prod.snd v5)))))))) > IntKind.wrap IntKind.u64 (Prod.fst (Prod.snd v5))) else bif Prod.fst (Prod.snd (Prod.snd (Prod.snd (Prod.snd v5)))) then Prod.fst (Prod.snd (Prod.snd (Prod.snd (Prod.snd (Prod.snd v5))))) else false)
theorem ref1_Check.s3000017_eq {R : Type} (v0 : List (Int × Int × Bool × Bool × Bool × Bool × List Int × Unit)) (v1 : Int) (v2 : Int) (v3 : Int) (v4 : Bool) (v5 : Int × Int × Bool × Bool × Bool × Bool × List Int × Unit) (knormal : (List (Int × Int × Bool × Bool × Bool × Bool × List Int × Unit)) → Int → Int → Bool → Option R) : ref1_Check.s3000017 v0 v1 v2 v3 v4 v5 knormal = ref1_Check.o3000017 v0 v1 v2 v3 v4 v5 knormal := by
  unfold ref1_Check.s3000017 ref1_Check.o3000017
  (cases hc : v4 with | false => (first | rfl | simp_all) | true => (first | rfl | simp_all))
def ref1_Check.T3000016 : Tm := ⟨fill 0 85 [(0, Sl.data (Ty.sl RT)), (5, Sl.data (Ty.int IntKind.u64)), (6, Sl.data (Ty.int IntKind.i64)), (7, Sl.ptr (7 : Nat) (nilOf Step)), (8, Sl.data (Ty.int IntKind.u64)), (47, Sl.data Ty.bool)], [{ k := (7 : Nat), t := RT, vir := false }]⟩
def ref1_Check.X3000016_normal : Tm := ⟨fill 0 85 [(0, Sl.data (Ty.sl RT)), (6, Sl.data (Ty.int IntKind.i64)), (8, Sl.data (Ty.int IntKind.u64)), (47, Sl.data Ty.bool)], []⟩
def ref1_Check.o3000016 {R : Type} (v0 : List (Int × Int × Bool × Bool × Bool × Bool × List Int × Unit)) (v1 : Int) (v2 : Int) (v3 : Int) (v4 : Bool) (v5 : Int × Int × Bool × Bool × Bool × Bool × List Int × Unit) (knormal : (List (Int × Int × Bool × Bool × Bool × Bool × List Int × Unit)) → Int → Int → Bool → Option R) : Option R :=
  bif v4 then knormal v0 v2 v3 v4 else knormal v0 v2 v3 (bif Prod.fst (Prod.snd v5) == (0 : Int) then Prod.fst (Prod.snd v5) == (0 : Int) else bif decide (v3 > (4294963200 : Int)) then decide (v3 > (4294963200 : Int)) else bif decide (v2 > (0 : Int)) && decide (IntKind.wrap IntKind.u64 (Prod.fst v5) < v1) then decide (v2 > (0 : Int)) && decide (IntKind.wrap IntKind.u64 (Prod.fst v5) < v1) else bif decide (IntKind.wrap IntKind.u64 ↑(List.length (Prod.fst (Prod.snd (Prod.snd (Prod.snd (Prod.snd (Prod.snd (Prod.snd v5)))))))) > IntKind.wrap IntKind.u64 (Prod.fst (Prod.snd v5))) then decide (IntKind.wrap IntKind.u64 ↑(List.length (Prod.fst (Prod.snd (Prod.snd (Prod.snd (Prod.snd (Prod.snd (Prod.snd v5)))))))) > IntKind.wrap IntKind.u64 (Prod.fst (Prod.snd v5))) else bif Prod.fst (Prod.snd (Prod.snd (Prod.snd (Prod.snd v5)))) then Prod.fst (Prod.snd (Prod.snd (Prod.snd (Prod.snd (Prod.snd v5))))) else false)
def ref1_Check.s3000016 {R : Type} (v0 : List (Int × Int × Bool × Bool × Bool × Bool × List Int × Unit)) (v1 : Int) (v2 : Int) (v3 : Int) (v4 : Bool) (v5 : Int × Int × Bool × Bool × Bool × Bool × List Int × Unit) (knormal : (List (Int × Int × Bool × Bool × Bool × Bool × List Int × Unit)) → Int → Int → Bool → Option R) : Option R :=
  knormal v0 v2 v3 (bif v4 then v4 else bif Prod.fst (Prod.snd v5) == (0 : Int) then Prod.fst (Prod.snd v5) == (0 : Int) else bif decide (v3 > (4294963200 : Int)) then decide (v3 > (4294963200 : Int)) else bif decide (v2 > (0 : Int)) && decide (IntKind.wrap IntKind.u64 (Prod.fst v5) < v1) then decide (v2 > (0 : Int)) && decide (IntKind.wrap IntKind.u64 (Prod.fst v5) < v1) else bif decide (IntKind.wrap IntKind.u64 ↑(List.length (Prod.fst (Prod.snd (Prod.snd (Prod.snd (Prod.snd (Prod.snd (Prod.snd v5)))))))) > IntKind.wrap IntKind.u64 (Prod.fst (Prod.snd v5))) then decide (IntKind.wrap IntKind.u64 ↑(List.length (Prod.fst (Prod.snd (Prod.snd (Prod.snd (Prod.snd (Prod.snd (Prod.snd v5)))))))) > IntKind.wrap IntKind.u64 (Prod.fst (Prod.snd v5))) else bif Prod.fst (Prod.snd (Prod.snd (Prod.snd (Prod.snd v5)))) then Prod.fst (Prod.snd (Prod.snd (Prod.snd (Prod.snd (Prod.snd v5))))) else false)
theorem ref1_Check.s3000016_eq {R : Type} (v0 : List (Int × Int × Bool × Bool × Bool × Bool × List Int × Unit)) (v1 : Int) (v2 : Int) (v3 : Int) (v4 : Bool) (v5 : Int × Int × Bool × Bool × Bool × Bool × List Int × Unit) (knormal : (List (Int × Int × Bool × Bool × Bool × Bool × List Int × Unit)) → Int → Int → Bool → Option R) : ref1_Check.s3000016 v0 v1 v2 v3 v4 v5 knormal = ref1_Check.o3000016 v0 v1 v2 v3 v4 v5 knormal := by
  unfold ref1_Check.s3000016 ref1_Check.o3000016
  (cases hc : v4 with | false => (first | rfl | simp_all) | true => (first | rfl | simp_all))
def ref1_Check.T3000015 : Tm := ⟨fill 0 85 [(0, Sl.data (Ty.sl RT)), (5, Sl.data (Ty.int IntKind.u64)), (6, Sl.data (Ty.int IntKind.i64)), (7, Sl.ptr (7 : Nat) (nilOf Step)), (8, Sl.data (Ty.int IntKind.u64)), (47, Sl.data Ty.bool)], [{ k := (7 : Nat), t := RT, vir := false }]⟩
def ref1_Check.X3000015_normal : Tm := ⟨fill 0 85 [(0, Sl.data (Ty.sl RT)), (6, Sl.data (Ty.int IntKind.i64)), (8, Sl.data (Ty.int IntKind.u64)), (47, Sl.data Ty.bool)], []⟩
def ref1_Check.o3000015 {R : Type} (v0 : List (Int × Int × Bool × Bool × Bool × Bool × List Int × Unit)) (v1 : Int) (v2 : Int) (v3 : Int) (v4 : Bool) (v5 : Int × Int × Bool × Bool × Bool × Bool × List Int × Unit) (knormal : (List (Int × Int × Bool × Bool × Bool × Bool × List Int × Unit)) → Int → Int → Bool → Option R) : Option R :=
  bif v4 then knormal v0 v2 v3 v4 else knormal v0 v2 v3 (bif Int.tmod (Prod.fst (Prod.snd v5)) (4 : Int) != (0 : Int) then Int.tmod (Prod.fst (Prod.snd v5)) (4 : Int) != (0 : Int) else bif Prod.fst (Prod.snd v5) == (0 : Int) then Prod.fst (Prod.snd v5) == (0 : Int) else bif decide (v3 > (4294963200 : Int)) then decide (v3 > (4294963200 : Int)) else bif decide (v2 > (0 : Int)) && decide (IntKind.wrap IntKind.u64 (Prod.fst v5) < v1) then decide (v2 > (0 : Int)) && decide (IntKind.wrap IntKind.u64 (Prod.fst v5) < v1) else bif decide (IntKind.wrap IntKind.u64 ↑(List.length (Prod.fst (Prod.snd (Prod.snd (Prod.snd (Prod.snd (Prod.snd (Prod.snd v5)))))))) > IntKind.wrap IntKind.u64 (Prod.fst (Prod.snd v5))) then decide (IntKind.wrap IntKind.u64 ↑(List.length (Prod.fst (Prod.snd (Prod.snd (Prod.snd (Prod.snd (Prod.snd (Prod.snd v5)))))))) > IntKind.wrap IntKind.u64 (Prod.fst (Prod.snd v5))) else bif Prod.fst (Prod.snd (Prod.snd (Prod.snd (Prod.snd v5)))) then Prod.fst (Prod.snd (Prod.snd (Prod.snd (Prod.snd (Prod.snd v5))))) else false)
def ref1_Check.s3000015 {R : Type} (v0 : List (Int × Int × Bool × Bool × Bool × Bool × List Int × Unit)) (v1 : Int) (v2 : Int) (v3 : Int) (v4 : Bool) (v5 : Int × Int × Bool × Bool × Bool × Bool × List Int × Unit) (knormal : (List (Int × Int × Bool × Bool × Bool × Bool × List Int × Unit)) → Int → Int → Bool → Option R) : Option R :=
  knormal v0 v2 v3 (bif v4 then v4 else bif Int.tmod (Prod.fst (Prod.snd v5)) (4 : Int) != (0 : Int) then Int.tmod (Prod.fst (Prod.snd v5)) (4 : Int) != (0 : Int) else bif Prod.fst (Prod.snd v5) == (0 : Int) then Prod.fst (Prod.snd v5) == (0 : Int) else bif decide (v3 > (4294963200 : Int)) then decide (v3 > (4294963200 : Int)) else bif decide (v2 > (0 : Int)) && decide (IntKind.wrap IntKind.u64 (Prod.fst v5) < v1) then decide (v2 > (0 : Int)) && decide (IntKind.wrap IntKind.u64 (Prod.fst v5) < v1) else bif decide (IntKind.wrap IntKind.u64 ↑(List.length (Prod.fst (Prod.snd (Prod.snd (Prod.snd (Prod.snd (Prod.snd (Prod.snd v5)))))))) > IntKind.wrap IntKind.u64 (Prod.fst (Prod.snd v5))) then decide (IntKind.wrap IntKind.u64 ↑(List.length (Prod.fst (Prod.snd (Prod.snd (Prod.snd (Prod.snd (Prod.snd (Prod.snd v5)))))))) > IntKind.wrap IntKind.u64 (Prod.fst (Prod.snd v5))) else bif Prod.fst (Prod.snd (Prod.snd (Prod.snd (Prod.snd v5)))) then Prod.fst (Prod.snd (Prod.snd (Prod.snd (Prod.snd (Prod.snd v5))))) else false)
theorem ref1_Check.s3000015_eq {R : Type} (v0 : List (Int × Int × Bool × Bool × Bool × Bool × List Int × Unit)) (v1 : Int) (v2 : Int) (v3 : Int) (v4 : Bool) (v5 : Int × Int × Bool × Bool × Bool × Bool × List Int × Unit) (knormal : (List (Int × Int × Bool × Bool × Bool × Bool × List Int × Unit)) → Int → Int → Bool → Option R) : ref1_Check.s3000015 v0 v1 v2 v3 v4 v5 knormal = ref1_Check.o3000015 v0 v1 v2 v3 v4 v5 knormal := by
  unfold ref1_Check.s3000015 ref1_Check.o3000015
  (cases hc : v4 with | false => (first | rfl | simp_all) | true => (first | rfl | simp_all))
def ref1_Check.T2 : Tm := ⟨fill 0 85 [(0, Sl.data (Ty.sl RT)), (5, Sl.data (Ty.int IntKind.u64)), (6, Sl.data (Ty.int IntKind.i64))], []⟩
def ref1_Check.X2_ret : Tm := ⟨fill 0 85 [(2, Sl.data (Ty.int IntKind.i64))], []⟩
def ref1_Check.X2_exit2 : Tm := ⟨fill 0 85 [], []⟩
def ref1_Check.round2 {R : Type} (v0 : List (Int × Int × Bool × Bool × Bool × Bool × List Int × Unit)) (v1 : Int) (v2 : Int) (next : (List (Int × Int × Bool × Bool × Bool × Bool × List Int × Unit)) → Int → Int → Option R) (kret : Int → Option R) (kexit2 : Option R) : Option R :=
  bif decide (v2 < ↑(List.length v0)) then bif decide ((0 : Int) ≤ v2) && decide (v2 < ↑(List.length v0)) then bif bif Int.tmod (Prod.fst (List.getD v0 (Int.toNat v2) (Ty.dflt RT))) (4 : Int) != (0 : Int) then Int.tmod (Prod.fst (List.getD v0 (Int.toNat v2) (Ty.dflt RT))) (4 : Int) != (0 : Int) else bif Int.tmod (Prod.fst (Prod.snd (List.getD v0 (Int.toNat v2) (Ty.dflt RT)))) (4 : Int) != (0 : Int) then Int.tmod (Prod.fst (Prod.snd (List.getD v0 (Int.toNat v2) (Ty.dflt RT)))) (4 : Int) != (0 : Int) else bif Prod.fst (Prod.snd (List.getD v0 (Int.toNat v2) (Ty.dflt RT))) == (0 : Int) then Prod.fst (Prod.snd (List.getD v0 (Int.toNat v2) (Ty.dflt RT))) == (0 : Int) else bif decide (IntKind.wrap IntKind.u64 (IntKind.wrap IntKind.u64 (Prod.fst (List.getD v0 (Int.toNat v2) (Ty.dflt RT))) + IntKind.wrap IntKind.u64 (Prod.fst (Prod.snd (List.getD v0 (Int.toNat v2) (Ty.dflt RT))))) > (4294963200 : Int)) then decide (IntKind.wrap IntKind.u64 (IntKind.wrap IntKind.u64 (Prod.fst (List.getD v0 (Int.toNat v2) (Ty.dflt RT))) + IntKind.wrap IntKind.u64 (Prod.fst (Prod.snd (List.getD v0 (Int.toNat v2) (Ty.dflt RT))))) > (4294963200 : Int)) else bif decide (v2 > (0 : Int)) && decide (IntKind.wrap IntKind.u64 (Prod.fst (List.getD v0 (Int.toNat v2) (Ty.dflt RT))) < v1) then decide (v2 > (0 : Int)) && decide (IntKind.wrap IntKind.u64 (Prod.fst (List.getD v0 (Int.toNat v2) (Ty.dflt RT))) < v1) else bif decide (IntKind.wrap IntKind.u64 ↑(List.length (Prod.fst (Prod.snd (Prod.snd (Prod.snd (Prod.snd (Prod.snd (Prod.snd (List.getD v0 (Int.toNat v2) (Ty.dflt RT)))))))))) > IntKind.wrap IntKind.u64 (Prod.fst (Prod.snd (List.getD v0 (Int.toNat v2) (Ty.dflt RT))))) then decide (IntKind.wrap IntKind.u64 ↑(List.length (Prod.fst (Prod.snd (Prod.snd (Prod.snd (Prod.snd (Prod.snd (Prod.snd (List.getD v0 (Int.toNat v2) (Ty.dflt RT)))))))))) > IntKind.wrap IntKind.u64 (Prod.fst (Prod.snd (List.getD v0 (Int.toNat v2) (Ty.dflt RT))))) else bif Prod.fst (Prod.snd (Prod.snd (Prod.snd (Prod.snd (List.getD v0 (Int.toNat v2) (Ty.dflt RT)))))) then Prod.fst (Prod.snd (Prod.snd (Prod.snd (Prod.snd (Prod.snd (List.getD v0 (Int.toNat v2) (Ty.dflt RT))))))) else false then kret (23 : Int) else next v0 (IntKind.wrap IntKind.u64 (IntKind.wrap IntKind.u64 (Prod.fst (List.getD v0 (Int.toNat v2) (Ty.dflt RT))) + IntKind.wrap IntKind.u64 (Prod.fst (Prod.snd (List.getD v0 (Int.toNat v2) (Ty.dflt RT)))))) (IntKind.wrap IntKind.i64 (v2 + (1 : Int))) else none else kexit2
def ref1_Check.R2 {R : Type} (kret : Int → Option R) (kexit2 : Option R) : ((List (Int × Int × Bool × Bool × Bool × Bool × List Int × Unit)) × Int × Int) → (((List (Int × Int × Bool × Bool × Bool × Bool × List Int × Unit)) × Int × Int) → Option R) → Option R := fun (v0, v1, v2) next => ref1_Check.round2 v0 v1 v2 (fun w0 w1 w2 => next (w0, w1, w2)) kret kexit2
theorem ref1_Check.R2_eq {R : Type} (kret : Int → Option R) (kexit2 : Option R) (v0 : List (Int × Int × Bool × Bool × Bool × Bool × List Int × Unit)) (v1 : Int) (v2 : Int) (next : ((List (Int × Int × Bool × Bool × Bool × Bool × List Int × Unit)) × Int × Int) → Option R) : ref1_Check.R2 kret kexit2 (v0, v1, v2) next = ref1_Check.round2 v0 v1 v2 (fun w0 w1 w2 => next (w0, w1, w2)) kret kexit2 := rfl
def ref1_Check.loop2 {R : Type} (v0 : List (Int × Int × Bool × Bool × Bool × Bool × List Int × Unit)) (v1 : Int) (v2 : Int) (kret : Int → Option R) (kexit2 : Option R) : Option R :=
  open Classical in
  if v0.length ≤ 10 ∧ regs_u32 v0 ∧ regs_short v0 ∧ 0 ≤ v2 ∧ v2 ≤ v0.length ∧ (v2 = 0 → v1 = 0) then (bif region_wrongs (v0.drop v2.toNat) v1 then kret 23 else kexit2) else none
theorem ref1_Check.loop2_ok {R : Type} (v0 : List (Int × Int × Bool × Bool × Bool × Bool × List Int × Unit)) (v1 : Int) (v2 : Int) (kret : Int → Option R) (kexit2 : Option R) (r : R) (h : ref1_Check.loop2 v0 v1 v2 kret kexit2 = some r) : ∃ n, lp (ref1_Check.R2 kret kexit2) n (v0, v1, v2) = some r := by
  unfold ref1_Check.loop2 at h
  split at h <;> try (cases h; done)
  rename_i hc
  obtain ⟨h1, hu, hs, h2, h3, hb⟩ := hc
  rw [← h]
  refine lp_spec (round := ref1_Check.R2 kret kexit2) (spec := fun (l, b, i) => bif region_wrongs (l.drop i.toNat) b then kret 23 else kexit2) (inv := fun (l, b, i) => l = v0 ∧ 0 ≤ i ∧ i ≤ v0.length ∧ (i = 0 → b = 0)) (μ := fun (l, s, i) => (v0.length - i).toNat) ?_ (v0, v1, v2) ⟨rfl, h2, h3, hb⟩
  rintro ⟨l, b, i⟩ ⟨rfl, k1, k2, k3⟩ next hn
  rw [ref1_Check.R2_eq, ref1_Check.round2]
  by_cases hi : i < (l.length : Int)
  · obtain ⟨x, hx, hd⟩ := getD_at (d := Ty.dflt RT) k1 hi
    have hm : x ∈ l := by
      have : x ∈ l.drop i.toNat := by rw [hd]; simp
      exact List.mem_of_mem_drop this
    obtain ⟨⟨u1, u2⟩, u3, u4⟩ := hu x hm
    have hs' := hs x hm
    have hnx := hn (l, IntKind.wrap IntKind.u64 (IntKind.wrap IntKind.u64 x.1 + IntKind.wrap IntKind.u64 x.2.1), i + 1) ⟨rfl, by omega, by omega, by omega⟩ (by simp only; omega)
    rw [decide_eq_true hi, decide_eq_true k1, hx, wrap_next k1 hi (by omega), len_cmp _ _ u3 u4 hs', first_cmp i x.1 b k1 k3 u1 u2]
    dsimp only
    simp only [Bool.and_self, Bool.cond_true]
    rw [hnx, hd, region_wrongs, region_wrong]
    cases Int.tmod x.1 4 != 0
    · cases Int.tmod x.2.1 4 != 0
      · cases x.2.1 == 0
        · cases decide (IntKind.wrap IntKind.u64 (IntKind.wrap IntKind.u64 x.1 + IntKind.wrap IntKind.u64 x.2.1) > (4294963200 : Int))
          · cases decide (IntKind.wrap IntKind.u64 x.1 < b)
            · cases decide ((x.2.2.2.2.2.2.1.length : Int) > IntKind.wrap .i64 x.2.1)
              · cases x.2.2.2.2.1 <;> cases x.2.2.2.2.2.1 <;> rfl
              · rfl
            · rfl
          · rfl
        · rfl
      · rfl
    · rfl
  · rw [decide_eq_false hi]
    dsimp only
    rw [List.drop_of_length_le (by omega)]
    rfl
def ref1_Check.C : Cfg := { rows := [], keep := [(0, [0, 3, 4], []), (1000000, [0, 2, 3], []), (2, [0, 5, 6], []), (1000002, [2], []), (2000006, [0, 3], []), (12000006, [0, 29], []), (2000018, [0, 5, 6, 7, 8], [7]), (12000018, [0, 6, 7, 8, 47], [7]), (2000020, [0, 6, 7, 8], [7]), (12000020, [0, 6, 8, 47], []), (3000020, [0, 6, 7, 8, 47], [7]), (13000020, [0, 6, 8, 47], []), (3000019, [0, 6, 7, 8, 47], [7]), (13000019, [0, 6, 8, 47], []), (3000018, [0, 5, 6, 7, 8, 47], [7]), (13000018, [0, 6, 8, 47], []), (3000017, [0, 5, 6, 7, 8, 47], [7]), (13000017, [0, 6, 8, 47], []), (3000016, [0, 5, 6, 7, 8, 47], [7]), (13000016, [0, 6, 8, 47], []), (3000015, [0, 5, 6, 7, 8, 47], [7]), (13000015, [0, 6, 8, 47], [])], adopt := [] }
def ref1_Check.sum2000006 : FrV ref1_Check.T2000006.fr × StV ref1_Check.T2000006.st → (Ex → S → Option (List DVal)) → Option (List DVal) := fun ((v0, v1, ()), (())) K => ref1_Check.s2000006 v0 v1 (fun e0 e1 => K .normal (pack ref1_Check.X2000006_normal ((e0, e1, ()), (()))))
def ref1_Check.sum2000018 : FrV ref1_Check.T2000018.fr × StV ref1_Check.T2000018.st → (Ex → S → Option (List DVal)) → Option (List DVal) := fun ((v0, v1, v2, v3, ()), (v4, ())) K => ref1_Check.s2000018 v0 v1 v2 v3 v4 (fun e0 e1 e2 e3 e4 => K .normal (pack ref1_Check.X2000018_normal ((e0, e1, e2, e3, ()), (e4, ()))))
def ref1_Check.sum2000020 : FrV ref1_Check.T2000020.fr × StV ref1_Check.T2000020.st → (Ex → S → Option (List DVal)) → Option (List DVal) := fun ((v0, v1, v2, ()), (v3, ())) K => ref1_Check.s2000020 v0 v1 v2 v3 (fun e0 e1 e2 e3 => K .normal (pack ref1_Check.X2000020_normal ((e0, e1, e2, e3, ()), (()))))
def ref1_Check.sum3000020 : FrV ref1_Check.T3000020.fr × StV ref1_Check.T3000020.st → (Ex → S → Option (List DVal)) → Option (List DVal) := fun ((v0, v1, v2, v3, ()), (v4, ())) K => ref1_Check.s3000020 v0 v1 v2 v3 v4 (fun e0 e1 e2 e3 => K .normal (pack ref1_Check.X3000020_normal ((e0, e1, e2, e3, ()), (()))))
def ref1_Check.sum3000019 : FrV ref1_Check.T3000019.fr × StV ref1_Check.T3000019.st → (Ex → S → Option (List DVal)) → Option (List DVal) := fun ((v0, v1, v2, v3, ()), (v4, ())) K => ref1_Check.s3000019 v0 v1 v2 v3 v4 (fun e0 e1 e2 e3 => K .normal (pack ref1_Check.X3000019_normal ((e0, e1, e2, e3, ()), (()))))
def ref1_Check.sum3000018 : FrV ref1_Check.T3000018.fr × StV ref1_Check.T3000018.st → (Ex → S → Option (List DVal)) → Option (List DVal) := fun ((v0, v1, v2, v3, v4, ()), (v5, ())) K => ref1_Check.s3000018 v0 v1 v2 v3 v4 v5 (fun e0 e1 e2 e3 => K .normal (pack ref1_Check.X3000018_normal ((e0, e1, e2, e3, ()), (()))))
def ref1_Check.sum3000017 : FrV ref1_Check.T3000017.fr × StV ref1_Check.T3000017.st → (Ex → S → Option (List DVal)) → Option (List DVal) := fun ((v0, v1, v2, v3, v4, ()), (v5, ())) K => ref1_Check.s3000017 v0 v1 v2 v3 v4 v5 (fun e0 e1 e2 e3 => K .normal (pack ref1_Check.X3000017_normal ((e0, e1, e2, e3, ()), (()))))
def ref1_Check.sum3000016 : FrV ref1_Check.T3000016.fr × StV ref1_Check.T3000016.st → (Ex → S → Option (List DVal)) → Option (List DVal) := fun ((v0, v1, v2, v3, v4, ()), (v5, ())) K => ref1_Check.s3000016 v0 v1 v2 v3 v4 v5 (fun e0 e1 e2 e3 => K .normal (pack ref1_Check.X3000016_normal ((e0, e1, e2, e3, ()), (()))))
def ref1_Check.sum3000015 : FrV ref1_Check.T3000015.fr × StV ref1_Check.T3000015.st → (Ex → S → Option (List DVal)) → Option (List DVal) := fun ((v0, v1, v2, v3, v4, ()), (v5, ())) K => ref1_Check.s3000015 v0 v1 v2 v3 v4 v5 (fun e0 e1 e2 e3 => K .normal (pack ref1_Check.X3000015_normal ((e0, e1, e2, e3, ()), (()))))
def ref1_Check.sum0 : FrV ref1_Check.T0.fr × StV ref1_Check.T0.st → (Ex → S → Option (List DVal)) → Option (List DVal) := fun ((v0, v1, v2, ()), (())) K => ref1_Check.loop0 v0 v1 v2 (fun e0 e1 => K (.exit 0) (pack ref1_Check.X0_exit0 ((e0, e1, ()), (()))))
def ref1_Check.rnd0 : FrV ref1_Check.T0.fr × StV ref1_Check.T0.st → (FrV ref1_Check.T0.fr × StV ref1_Check.T0.st → Option (List DVal)) → (Ex → S → Option (List DVal)) → Option (List DVal) := fun ((v0, v1, v2, ()), (())) next K => ref1_Check.round0 v0 v1 v2 (fun w0 w1 w2 => next ((w0, w1, w2, ()), (()))) (fun e0 e1 => K (.exit 0) (pack ref1_Check.X0_exit0 ((e0, e1, ()), (()))))
def ref1_Check.sum2 : FrV ref1_Check.T2.fr × StV ref1_Check.T2.st → (Ex → S → Option (List DVal)) → Option (List DVal) := fun ((v0, v1, v2, ()), (())) K => ref1_Check.loop2 v0 v1 v2 (fun e0 => K .ret (pack ref1_Check.X2_ret ((e0, ()), (())))) (K (.exit 2) (pack ref1_Check.X2_exit2 ((), ())))
def ref1_Check.rnd2 : FrV ref1_Check.T2.fr × StV ref1_Check.T2.st → (FrV ref1_Check.T2.fr × StV ref1_Check.T2.st → Option (List DVal)) → (Ex → S → Option (List DVal)) → Option (List DVal) := fun ((v0, v1, v2, ()), (())) next K => ref1_Check.round2 v0 v1 v2 (fun w0 w1 w2 => next ((w0, w1, w2, ()), (()))) (fun e0 => K .ret (pack ref1_Check.X2_ret ((e0, ()), (())))) (K (.exit 2) (pack ref1_Check.X2_exit2 ((), ())))
def ref1_Check.L : Nat → Option Sum := fun i => if i = 0 then some (sumOf ref1_Check.T0 ref1_Check.sum0) else if i = 2 then some (sumOf ref1_Check.T2 ref1_Check.sum2) else if i = 2000006 then some (sumOf ref1_Check.T2000006 ref1_Check.sum2000006) else if i = 2000018 then some (sumOf ref1_Check.T2000018 ref1_Check.sum2000018) else if i = 2000020 then some (sumOf ref1_Check.T2000020 ref1_Check.sum2000020) else if i = 3000020 then some (sumOf ref1_Check.T3000020 ref1_Check.sum3000020) else if i = 3000019 then some (sumOf ref1_Check.T3000019 ref1_Check.sum3000019) else if i = 3000018 then some (sumOf ref1_Check.T3000018 ref1_Check.sum3000018) else if i = 3000017 then some (sumOf ref1_Check.T3000017 ref1_Check.sum3000017) else if i = 3000016 then some (sumOf ref1_Check.T3000016 ref1_Check.sum3000016) else if i = 3000015 then some (sumOf ref1_Check.T3000015 ref1_Check.sum3000015) else none
theorem ref1_Check.rnd0_eq : ∀ v (r : S → Option (List DVal)) (K : Ex → S → Option (List DVal)), exec Try.prog ref1_Check.C ref1_Check.env ref1_Check.L 0 (loopOf Try.f26 0) (pack ref1_Check.T0 v) (fun e s' => match e with | .normal => r (trim ref1_Check.C 0 s') | e => K e (trim ref1_Check.C (0 + 1000000) s')) = ref1_Check.rnd0 v (fun v' => r (pack ref1_Check.T0 v')) K :=
  fun ((v0, v1, v2, ()), (())) r K => by kernel_rfl
theorem ref1_Check.lp0 (K : Ex → S → Option (List DVal)) : ∀ (n : Nat) (v0 : List (Int × Int × Bool × Bool × Bool × Bool × List Int × Unit)) (v1 : Int) (v2 : Int), lp (fun v next => ref1_Check.rnd0 v next K) n ((v0, v1, v2, ()), (())) = lp (ref1_Check.R0 (fun e0 e1 => K (.exit 0) (pack ref1_Check.X0_exit0 ((e0, e1, ()), (()))))) n (v0, v1, v2) := by
  intro n
  induction n with
  | zero => intros; rfl
  | succ n ih =>
    intro v0 v1 v2
    show ref1_Check.round0 v0 v1 v2 (fun w0 w1 w2 => lp (fun v next => ref1_Check.rnd0 v next K) n ((w0, w1, w2, ()), (()))) (fun e0 e1 => K (.exit 0) (pack ref1_Check.X0_exit0 ((e0, e1, ()), (())))) = ref1_Check.round0 v0 v1 v2 (fun w0 w1 w2 => lp (ref1_Check.R0 (fun e0 e1 => K (.exit 0) (pack ref1_Check.X0_exit0 ((e0, e1, ()), (()))))) n (w0, w1, w2)) (fun e0 e1 => K (.exit 0) (pack ref1_Check.X0_exit0 ((e0, e1, ()), (()))))
    simp only [ih]
theorem ref1_Check.sum0_ok : SumOk Try.prog ref1_Check.C ref1_Check.env ref1_Check.L 0 (loopOf Try.f26 0) := sumOk_lp (T := ref1_Check.T0) (rnd := ref1_Check.rnd0) (f := ref1_Check.sum0) rfl ref1_Check.rnd0_eq fun ((v0, v1, v2, ()), (())) K r h => by
  obtain ⟨n, hn⟩ := ref1_Check.loop0_ok v0 v1 v2 (fun e0 e1 => K (.exit 0) (pack ref1_Check.X0_exit0 ((e0, e1, ()), (())))) r h
  exact ⟨n, by rw [ref1_Check.lp0]; exact hn⟩
theorem ref1_Check.rnd2_eq : ∀ v (r : S → Option (List DVal)) (K : Ex → S → Option (List DVal)), exec Try.prog ref1_Check.C ref1_Check.env ref1_Check.L 2 (loopOf Try.f26 2) (pack ref1_Check.T2 v) (fun e s' => match e with | .normal => r (trim ref1_Check.C 2 s') | e => K e (trim ref1_Check.C (2 + 1000000) s')) = ref1_Check.rnd2 v (fun v' => r (pack ref1_Check.T2 v')) K :=
  fun ((v0, v1, v2, ()), (())) r K => by kernel_rfl
theorem ref1_Check.lp2 (K : Ex → S → Option (List DVal)) : ∀ (n : Nat) (v0 : List (Int × Int × Bool × Bool × Bool × Bool × List Int × Unit)) (v1 : Int) (v2 : Int), lp (fun v next => ref1_Check.rnd2 v next K) n ((v0, v1, v2, ()), (())) = lp (ref1_Check.R2 (fun e0 => K .ret (pack ref1_Check.X2_ret ((e0, ()), (())))) (K (.exit 2) (pack ref1_Check.X2_exit2 ((), ())))) n (v0, v1, v2) := by
  intro n
  induction n with
  | zero => intros; rfl
  | succ n ih =>
    intro v0 v1 v2
    show ref1_Check.round2 v0 v1 v2 (fun w0 w1 w2 => lp (fun v next => ref1_Check.rnd2 v next K) n ((w0, w1, w2, ()), (()))) (fun e0 => K .ret (pack ref1_Check.X2_ret ((e0, ()), (())))) (K (.exit 2) (pack ref1_Check.X2_exit2 ((), ()))) = ref1_Check.round2 v0 v1 v2 (fun w0 w1 w2 => lp (ref1_Check.R2 (fun e0 => K .ret (pack ref1_Check.X2_ret ((e0, ()), (())))) (K (.exit 2) (pack ref1_Check.X2_exit2 ((), ())))) n (w0, w1, w2)) (fun e0 => K .ret (pack ref1_Check.X2_ret ((e0, ()), (())))) (K (.exit 2) (pack ref1_Check.X2_exit2 ((), ())))
    simp only [ih]
theorem ref1_Check.sum2_ok : SumOk Try.prog ref1_Check.C ref1_Check.env ref1_Check.L 2 (loopOf Try.f26 2) := sumOk_lp (T := ref1_Check.T2) (rnd := ref1_Check.rnd2) (f := ref1_Check.sum2) rfl ref1_Check.rnd2_eq fun ((v0, v1, v2, ()), (())) K r h => by
  obtain ⟨n, hn⟩ := ref1_Check.loop2_ok v0 v1 v2 (fun e0 => K .ret (pack ref1_Check.X2_ret ((e0, ()), (())))) (K (.exit 2) (pack ref1_Check.X2_exit2 ((), ()))) r h
  exact ⟨n, by rw [ref1_Check.lp2]; exact hn⟩
theorem ref1_Check.x2000006 : ∀ v (K : Ex → S → Option (List DVal)), exec1 Try.prog ref1_Check.C ref1_Check.env ref1_Check.L (spotOf Try.f26 2000006).2.1 (spotOf Try.f26 2000006).2.2 (pack ref1_Check.T2000006 v) (fun e s' => K e (trim ref1_Check.C (2000006 + 10000000) s')) = (fun (((v0, v1, ()), (())) : FrV ref1_Check.T2000006.fr × StV ref1_Check.T2000006.st) => ref1_Check.o2000006 v0 v1 (fun e0 e1 => K .normal (pack ref1_Check.X2000006_normal ((e0, e1, ()), (()))))) v :=
  fun ((v0, v1, ()), (())) K => by kernel_rfl
theorem ref1_Check.sum2000006_ok : SpotOk Try.prog ref1_Check.C ref1_Check.env ref1_Check.L (spotOf Try.f26 2000006) := spotOk_of (T := ref1_Check.T2000006) (q := 2000006) (f := ref1_Check.sum2000006) (by kernel_rfl) (by kernel_rfl) fun ((v0, v1, ()), (())) K r h => (ref1_Check.x2000006 _ K).trans ((ref1_Check.s2000006_eq v0 v1 (fun e0 e1 => K .normal (pack ref1_Check.X2000006_normal ((e0, e1, ()), (()))))).symm.trans h)
theorem ref1_Check.x2000018 : ∀ v (K : Ex → S → Option (List DVal)), exec1 Try.prog ref1_Check.C ref1_Check.env ref1_Check.L (spotOf Try.f26 2000018).2.1 (spotOf Try.f26 2000018).2.2 (pack ref1_Check.T2000018 v) (fun e s' => K e (trim ref1_Check.C (2000018 + 10000000) s')) = (fun (((v0, v1, v2, v3, ()), (v4, ())) : FrV ref1_Check.T2000018.fr × StV ref1_Check.T2000018.st) => ref1_Check.o2000018 v0 v1 v2 v3 v4 (fun e0 e1 e2 e3 e4 => K .normal (pack ref1_Check.X2000018_normal ((e0, e1, e2, e3, ()), (e4, ()))))) v :=
  fun ((v0, v1, v2, v3, ()), (v4, ())) K => by kernel_rfl
theorem ref1_Check.sum2000018_ok : SpotOk Try.prog ref1_Check.C ref1_Check.env ref1_Check.L (spotOf Try.f26 2000018) := spotOk_of (T := ref1_Check.T2000018) (q := 2000018) (f := ref1_Check.sum2000018) (by kernel_rfl) (by kernel_rfl) fun ((v0, v1, v2, v3, ()), (v4, ())) K r h => (ref1_Check.x2000018 _ K).trans ((ref1_Check.s2000018_eq v0 v1 v2 v3 v4 (fun e0 e1 e2 e3 e4 => K .normal (pack ref1_Check.X2000018_normal ((e0, e1, e2, e3, ()), (e4, ()))))).symm.trans h)
theorem ref1_Check.x2000020 : ∀ v (K : Ex → S → Option (List DVal)), exec1 Try.prog ref1_Check.C ref1_Check.env ref1_Check.L (spotOf Try.f26 2000020).2.1 (spotOf Try.f26 2000020).2.2 (pack ref1_Check.T2000020 v) (fun e s' => K e (trim ref1_Check.C (2000020 + 10000000) s')) = (fun (((v0, v1, v2, ()), (v3, ())) : FrV ref1_Check.T2000020.fr × StV ref1_Check.T2000020.st) => ref1_Check.o2000020 v0 v1 v2 v3 (fun e0 e1 e2 e3 => K .normal (pack ref1_Check.X2000020_normal ((e0, e1, e2, e3, ()), (()))))) v :=
  fun ((v0, v1, v2, ()), (v3, ())) K => by kernel_rfl
theorem ref1_Check.sum2000020_ok : SpotOk Try.prog ref1_Check.C ref1_Check.env ref1_Check.L (spotOf Try.f26 2000020) := spotOk_of (T := ref1_Check.T2000020) (q := 2000020) (f := ref1_Check.sum2000020) (by kernel_rfl) (by kernel_rfl) fun ((v0, v1, v2, ()), (v3, ())) K r h => (ref1_Check.x2000020 _ K).trans ((ref1_Check.s2000020_eq v0 v1 v2 v3 (fun e0 e1 e2 e3 => K .normal (pack ref1_Check.X2000020_normal ((e0, e1, e2, e3, ()), (()))))).symm.trans h)
theorem ref1_Check.x3000020 : ∀ v (K : Ex → S → Option (List DVal)), exec1 Try.prog ref1_Check.C ref1_Check.env ref1_Check.L (spotOf Try.f26 3000020).2.1 (spotOf Try.f26 3000020).2.2 (pack ref1_Check.T3000020 v) (fun e s' => K e (trim ref1_Check.C (3000020 + 10000000) s')) = (fun (((v0, v1, v2, v3, ()), (v4, ())) : FrV ref1_Check.T3000020.fr × StV ref1_Check.T3000020.st) => ref1_Check.o3000020 v0 v1 v2 v3 v4 (fun e0 e1 e2 e3 => K .normal (pack ref1_Check.X3000020_normal ((e0, e1, e2, e3, ()), (()))))) v :=
  fun ((v0, v1, v2, v3, ()), (v4, ())) K => by kernel_rfl
theorem ref1_Check.sum3000020_ok : SpotOk Try.prog ref1_Check.C ref1_Check.env ref1_Check.L (spotOf Try.f26 3000020) := spotOk_of (T := ref1_Check.T3000020) (q := 3000020) (f := ref1_Check.sum3000020) (by kernel_rfl) (by kernel_rfl) fun ((v0, v1, v2, v3, ()), (v4, ())) K r h => (ref1_Check.x3000020 _ K).trans ((ref1_Check.s3000020_eq v0 v1 v2 v3 v4 (fun e0 e1 e2 e3 => K .normal (pack ref1_Check.X3000020_normal ((e0, e1, e2, e3, ()), (()))))).symm.trans h)
theorem ref1_Check.x3000019 : ∀ v (K : Ex → S → Option (List DVal)), exec1 Try.prog ref1_Check.C ref1_Check.env ref1_Check.L (spotOf Try.f26 3000019).2.1 (spotOf Try.f26 3000019).2.2 (pack ref1_Check.T3000019 v) (fun e s' => K e (trim ref1_Check.C (3000019 + 10000000) s')) = (fun (((v0, v1, v2, v3, ()), (v4, ())) : FrV ref1_Check.T3000019.fr × StV ref1_Check.T3000019.st) => ref1_Check.o3000019 v0 v1 v2 v3 v4 (fun e0 e1 e2 e3 => K .normal (pack ref1_Check.X3000019_normal ((e0, e1, e2, e3, ()), (()))))) v :=
  fun ((v0, v1, v2, v3, ()), (v4, ())) K => by kernel_rfl
theorem ref1_Check.sum3000019_ok : SpotOk Try.prog ref1_Check.C ref1_Check.env ref1_Check.L (spotOf Try.f26 3000019) := spotOk_of (T := ref1_Check.T3000019) (q := 3000019) (f := ref1_Check.sum3000019) (by kernel_rfl) (by kernel_rfl) fun ((v0, v1, v2, v3, ()), (v4, ())) K r h => (ref1_Check.x3000019 _ K).trans ((ref1_Check.s3000019_eq v0 v1 v2 v3 v4 (fun e0 e1 e2 e3 => K .normal (pack ref1_Check.X3000019_normal ((e0, e1, e2, e3, ()), (()))))).symm.trans h)
theorem ref1_Check.x3000018 : ∀ v (K : Ex → S → Option (List DVal)), exec1 Try.prog ref1_Check.C ref1_Check.env ref1_Check.L (spotOf Try.f26 3000018).2.1 (spotOf Try.f26 3000018).2.2 (pack ref1_Check.T3000018 v) (fun e s' => K e (trim ref1_Check.C (3000018 + 10000000) s')) = (fun (((v0, v1, v2, v3, v4, ()), (v5, ())) : FrV ref1_Check.T3000018.fr × StV ref1_Check.T3000018.st) => ref1_Check.o3000018 v0 v1 v2 v3 v4 v5 (fun e0 e1 e2 e3 => K .normal (pack ref1_Check.X3000018_normal ((e0, e1, e2, e3, ()), (()))))) v :=
  fun ((v0, v1, v2, v3, v4, ()), (v5, ())) K => by kernel_rfl
theorem ref1_Check.sum3000018_ok : SpotOk Try.prog ref1_Check.C ref1_Check.env ref1_Check.L (spotOf Try.f26 3000018) := spotOk_of (T := ref1_Check.T3000018) (q := 3000018) (f := ref1_Check.sum3000018) (by kernel_rfl) (by kernel_rfl) fun ((v0, v1, v2, v3, v4, ()), (v5, ())) K r h => (ref1_Check.x3000018 _ K).trans ((ref1_Check.s3000018_eq v0 v1 v2 v3 v4 v5 (fun e0 e1 e2 e3 => K .normal (pack ref1_Check.X3000018_normal ((e0, e1, e2, e3, ()), (()))))).symm.trans h)
theorem ref1_Check.x3000017 : ∀ v (K : Ex → S → Option (List DVal)), exec1 Try.prog ref1_Check.C ref1_Check.env ref1_Check.L (spotOf Try.f26 3000017).2.1 (spotOf Try.f26 3000017).2.2 (pack ref1_Check.T3000017 v) (fun e s' => K e (trim ref1_Check.C (3000017 + 10000000) s')) = (fun (((v0, v1, v2, v3, v4, ()), (v5, ())) : FrV ref1_Check.T3000017.fr × StV ref1_Check.T3000017.st) => ref1_Check.o3000017 v0 v1 v2 v3 v4 v5 (fun e0 e1 e2 e3 => K .normal (pack ref1_Check.X3000017_normal ((e0, e1, e2, e3, ()), (()))))) v :=
  fun ((v0, v1, v2, v3, v4, ()), (v5, ())) K => by kernel_rfl
theorem ref1_Check.sum3000017_ok : SpotOk Try.prog ref1_Check.C ref1_Check.env ref1_Check.L (spotOf Try.f26 3000017) := spotOk_of (T := ref1_Check.T3000017) (q := 3000017) (f := ref1_Check.sum3000017) (by kernel_rfl) (by kernel_rfl) fun ((v0, v1, v2, v3, v4, ()), (v5, ())) K r h => (ref1_Check.x3000017 _ K).trans ((ref1_Check.s3000017_eq v0 v1 v2 v3 v4 v5 (fun e0 e1 e2 e3 => K .normal (pack ref1_Check.X3000017_normal ((e0, e1, e2, e3, ()), (()))))).symm.trans h)
theorem ref1_Check.x3000016 : ∀ v (K : Ex → S → Option (List DVal)), exec1 Try.prog ref1_Check.C ref1_Check.env ref1_Check.L (spotOf Try.f26 3000016).2.1 (spotOf Try.f26 3000016).2.2 (pack ref1_Check.T3000016 v) (fun e s' => K e (trim ref1_Check.C (3000016 + 10000000) s')) = (fun (((v0, v1, v2, v3, v4, ()), (v5, ())) : FrV ref1_Check.T3000016.fr × StV ref1_Check.T3000016.st) => ref1_Check.o3000016 v0 v1 v2 v3 v4 v5 (fun e0 e1 e2 e3 => K .normal (pack ref1_Check.X3000016_normal ((e0, e1, e2, e3, ()), (()))))) v :=
  fun ((v0, v1, v2, v3, v4, ()), (v5, ())) K => by kernel_rfl
theorem ref1_Check.sum3000016_ok : SpotOk Try.prog ref1_Check.C ref1_Check.env ref1_Check.L (spotOf Try.f26 3000016) := spotOk_of (T := ref1_Check.T3000016) (q := 3000016) (f := ref1_Check.sum3000016) (by kernel_rfl) (by kernel_rfl) fun ((v0, v1, v2, v3, v4, ()), (v5, ())) K r h => (ref1_Check.x3000016 _ K).trans ((ref1_Check.s3000016_eq v0 v1 v2 v3 v4 v5 (fun e0 e1 e2 e3 => K .normal (pack ref1_Check.X3000016_normal ((e0, e1, e2, e3, ()), (()))))).symm.trans h)
theorem ref1_Check.x3000015 : ∀ v (K : Ex → S → Option (List DVal)), exec1 Try.prog ref1_Check.C ref1_Check.env ref1_Check.L (spotOf Try.f26 3000015).2.1 (spotOf Try.f26 3000015).2.2 (pack ref1_Check.T3000015 v) (fun e s' => K e (trim ref1_Check.C (3000015 + 10000000) s')) = (fun (((v0, v1, v2, v3, v4, ()), (v5, ())) : FrV ref1_Check.T3000015.fr × StV ref1_Check.T3000015.st) => ref1_Check.o3000015 v0 v1 v2 v3 v4 v5 (fun e0 e1 e2 e3 => K .normal (pack ref1_Check.X3000015_normal ((e0, e1, e2, e3, ()), (()))))) v :=
  fun ((v0, v1, v2, v3, v4, ()), (v5, ())) K => by kernel_rfl
theorem ref1_Check.sum3000015_ok : SpotOk Try.prog ref1_Check.C ref1_Check.env ref1_Check.L (spotOf Try.f26 3000015) := spotOk_of (T := ref1_Check.T3000015) (q := 3000015) (f := ref1_Check.sum3000015) (by kernel_rfl) (by kernel_rfl) fun ((v0, v1, v2, v3, v4, ()), (v5, ())) K r h => (ref1_Check.x3000015 _ K).trans ((ref1_Check.s3000015_eq v0 v1 v2 v3 v4 v5 (fun e0 e1 e2 e3 => K .normal (pack ref1_Check.X3000015_normal ((e0, e1, e2, e3, ()), (()))))).symm.trans h)
def ref1_Check.tree {R : Type} (a0 : List (Int × Int × Bool × Bool × Bool × Bool × List Int × Unit)) (ret : Int → Option R) : Option R :=
  ref1_Check.loop0 a0 (0 : Int) (0 : Int) fun e0 e1 => bif decide (↑(List.length e0) > (8 : Int)) || decide (e1 > (65536 : Int)) then ret (22 : Int) else ref1_Check.loop2 e0 (0 : Int) (0 : Int) (fun e0 => ret e0) (ret (0 : Int))
theorem ref1_Check.eq (a0 : List (Int × Int × Bool × Bool × Bool × Bool × List Int × Unit)) : body Try.prog ref1_Check.C ref1_Check.env ref1_Check.L Try.f26 [⟨Ty.sl RT, a0⟩] = ref1_Check.tree a0 (fun r0 => some ([⟨Ty.int IntKind.i64, r0⟩] : List DVal)) := by kernel_rfl
def ref1_Check.pre (l : List Reg) : Bool := regsB l
def ref1_Check (l : List Reg) : Int := region_Check l
theorem ref1_Check.nice {R : Type} (l : List Reg) (hp : ref1_Check.pre l = true) (ret : Int → Option R) : ref1_Check.tree l ret = ret (ref1_Check l) := by
  obtain ⟨h1, hu, hs⟩ := regsB_u hp
  unfold ref1_Check.tree ref1_Check.loop0
  rw [if_pos ⟨by omega, by decide, by omega⟩]
  dsimp only
  unfold ref1_Check.loop2
  rw [if_pos ⟨h1, hu, hs, by decide, by omega, fun _ => rfl⟩]
  rw [show l.drop (Int.toNat 0) = l from rfl, ref1_sum_eq l 0 hu (by decide) (by omega)]
  unfold ref1_Check region_Check
  cases decide ((l.length : Int) > 8) <;> cases decide (region_sum l 0 > 65536) <;> cases region_wrongs l 0 <;> rfl
def ref1_Check.ctr : Ctr := ctrOf [Ty.sl RT] fun x => .guard (ref1_Check.pre (x.1)) (.ret [⟨Ty.int IntKind.i64, ref1_Check (x.1)⟩])
theorem ref1_Check.known : Known Try.prog 26 ref1_Check.ctr :=
  known_plain ref1_Check.envOk mixed Try.func26 (by kernel_rfl) (by kernel_rfl) (byId (by kernel_rfl : loopIds Try.f26 = [0, 2]) (by intro q hq; simp only [List.mem_cons, List.not_mem_nil, or_false] at hq; rcases hq with rfl | rfl<;> first | exact ref1_Check.sum0_ok | exact ref1_Check.sum2_ok)) (bySpot (ids := [2000006, 2000018, 2000020, 3000020, 3000019, 3000018, 3000017, 3000016, 3000015]) (by kernel_rfl) (by intro q hq; simp only [List.mem_cons, List.not_mem_nil, or_false] at hq; rcases hq with rfl | rfl | rfl | rfl | rfl | rfl | rfl | rfl | rfl <;> first | exact ref1_Check.sum2000006_ok | exact ref1_Check.sum2000018_ok | exact ref1_Check.sum2000020_ok | exact ref1_Check.sum3000020_ok | exact ref1_Check.sum3000019_ok | exact ref1_Check.sum3000018_ok | exact ref1_Check.sum3000017_ok | exact ref1_Check.sum3000016_ok | exact ref1_Check.sum3000015_ok)) fun x rs h => by
    obtain ⟨a0, u⟩ := x
    cases u
    simp only [Cmd.val_guard, Cmd.val_ret] at h
    split at h <;> try (cases h; done)
    rename_i hp
    exact (ref1_Check.eq a0).trans ((ref1_Check.nice a0 hp (fun r0 => some ([⟨Ty.int IntKind.i64, r0⟩] : List DVal))).trans h)

/-! ### ref1_Find -/
def ref1_Find.env : Env := envCons 26 ref1_Check.ctr <| envCons 39 ref1_size.ctr <| envNil
theorem ref1_Find.envOk : EnvOk Try.prog ref1_Find.env := envOk_cons ref1_Check.known (envOk_cons ref1_size.known (envOk_nil _))
theorem ref1_size_eq (n : Int) : ref1_size n = region_size n := by
  unfold ref1_size region_size
  cases n == 1 <;> cases n == 2 <;> rfl
def ref1_Find.T2000006 : Tm := ⟨fill 0 48 [(0, Sl.data (Ty.sl RT)), (1, Sl.data (Ty.int IntKind.u32)), (2, Sl.data (Ty.int IntKind.u32)), (8, Sl.data (Ty.int IntKind.i64))], []⟩
def ref1_Find.X2000006_normal : Tm := ⟨fill 0 48 [(0, Sl.data (Ty.sl RT)), (1, Sl.data (Ty.int IntKind.u32)), (2, Sl.data (Ty.int IntKind.u32)), (8, Sl.data (Ty.int IntKind.i64)), (46, Sl.data Ty.bool)], []⟩
def ref1_Find.o2000006 {R : Type} (v0 : List (Int × Int × Bool × Bool × Bool × Bool × List Int × Unit)) (v1 : Int) (v2 : Int) (v3 : Int) (knormal : (List (Int × Int × Bool × Bool × Bool × Bool × List Int × Unit)) → Int → Int → Int → Bool → Option R) : Option R :=
  bif decide ((0 : Int) ≤ v3) && decide (v3 < ↑(List.length v0)) then bif decide (v1 ≥ Prod.fst (List.getD v0 (Int.toNat v3) (Ty.dflt RT))) then bif decide ((0 : Int) ≤ v3) && decide (v3 < ↑(List.length v0)) then bif decide ((0 : Int) ≤ v3) && decide (v3 < ↑(List.length v0)) then knormal v0 v1 v2 v3 (decide (IntKind.wrap IntKind.u64 (IntKind.wrap IntKind.u64 v1 + IntKind.wrap IntKind.u64 (ref1_size v2)) ≤ IntKind.wrap IntKind.u64 (IntKind.wrap IntKind.u64 (Prod.fst (List.getD v0 (Int.toNat v3) (Ty.dflt RT))) + IntKind.wrap IntKind.u64 (Prod.fst (Prod.snd (List.getD v0 (Int.toNat v3) (Ty.dflt RT))))))) else none else none else knormal v0 v1 v2 v3 false else none
def ref1_Find.s2000006 {R : Type} (v0 : List (Int × Int × Bool × Bool × Bool × Bool × List Int × Unit)) (v1 : Int) (v2 : Int) (v3 : Int) (knormal : (List (Int × Int × Bool × Bool × Bool × Bool × List Int × Unit)) → Int → Int → Int → Bool → Option R) : Option R :=
  bif decide ((0 : Int) ≤ v3) && decide (v3 < ↑(List.length v0)) then bif !decide (v1 ≥ Prod.fst (List.getD v0 (Int.toNat v3) (Ty.dflt RT))) || decide ((0 : Int) ≤ v3) && decide (v3 < ↑(List.length v0)) && (decide ((0 : Int) ≤ v3) && decide (v3 < ↑(List.length v0))) then knormal v0 v1 v2 v3 (decide (v1 ≥ Prod.fst (List.getD v0 (Int.toNat v3) (Ty.dflt RT))) && decide (IntKind.wrap IntKind.u64 (IntKind.wrap IntKind.u64 v1 + IntKind.wrap IntKind.u64 (ref1_size v2)) ≤ IntKind.wrap IntKind.u64 (IntKind.wrap IntKind.u64 (Prod.fst (List.getD v0 (Int.toNat v3) (Ty.dflt RT))) + IntKind.wrap IntKind.u64 (Prod.fst (Prod.snd (List.getD v0 (Int.toNat v3) (Ty.dflt RT))))))) else none else none
theorem ref1_Find.s2000006_eq {R : Type} (v0 : List (Int × Int × Bool × Bool × Bool × Bool × List Int × Unit)) (v1 : Int) (v2 : Int) (v3 : Int) (knormal : (List (Int × Int × Bool × Bool × Bool × Bool × List Int × Unit)) → Int → Int → Int → Bool → Option R) : ref1_Find.s2000006 v0 v1 v2 v3 knormal = ref1_Find.o2000006 v0 v1 v2 v3 knormal := by
  unfold ref1_Find.s2000006 ref1_Find.o2000006
  (cases hc : decide ((0 : Int) ≤ v3) && decide (v3 < ↑(List.length v0)) with | false => (first | rfl | simp_all) | true => (cases hc : decide (v1 ≥ Prod.fst (List.getD v0 (Int.toNat v3) (Ty.dflt RT))) with | false => (first | rfl | simp_all) | true => (first | rfl | simp_all)))
def ref1_Find.T0 : Tm := ⟨fill 0 48 [(0, Sl.data (Ty.sl RT)), (1, Sl.data (Ty.int IntKind.u32)), (2, Sl.data (Ty.int IntKind.u32)), (8, Sl.data (Ty.int IntKind.i64))], []⟩
def ref1_Find.X0_ret : Tm := ⟨fill 0 48 [(6, Sl.data (Ty.int IntKind.i64)), (7, Sl.data Ty.bool)], []⟩
def ref1_Find.X0_exit0 : Tm := ⟨fill 0 48 [], []⟩
def ref1_Find.round0 {R : Type} (v0 : List (Int × Int × Bool × Bool × Bool × Bool × List Int × Unit)) (v1 : Int) (v2 : Int) (v3 : Int) (next : (List (Int × Int × Bool × Bool × Bool × Bool × List Int × Unit)) → Int → Int → Int → Option R) (kret : Int → Bool → Option R) (kexit0 : Option R) : Option R :=
  bif decide (v3 < ↑(List.length v0)) then bif decide ((0 : Int) ≤ v3) && decide (v3 < ↑(List.length v0)) then bif !decide (v1 ≥ Prod.fst (List.getD v0 (Int.toNat v3) (Ty.dflt RT))) || decide ((0 : Int) ≤ v3) && decide (v3 < ↑(List.length v0)) && (decide ((0 : Int) ≤ v3) && decide (v3 < ↑(List.length v0))) then bif decide (v1 ≥ Prod.fst (List.getD v0 (Int.toNat v3) (Ty.dflt RT))) && decide (IntKind.wrap IntKind.u64 (IntKind.wrap IntKind.u64 v1 + IntKind.wrap IntKind.u64 (ref1_size v2)) ≤ IntKind.wrap IntKind.u64 (IntKind.wrap IntKind.u64 (Prod.fst (List.getD v0 (Int.toNat v3) (Ty.dflt RT))) + IntKind.wrap IntKind.u64 (Prod.fst (Prod.snd (List.getD v0 (Int.toNat v3) (Ty.dflt RT)))))) then kret v3 true else next v0 v1 v2 (IntKind.wrap IntKind.i64 (v3 + (1 : Int))) else none else none else kexit0
def ref1_Find.R0 {R : Type} (kret : Int → Bool → Option R) (kexit0 : Option R) : ((List (Int × Int × Bool × Bool × Bool × Bool × List Int × Unit)) × Int × Int × Int) → (((List (Int × Int × Bool × Bool × Bool × Bool × List Int × Unit)) × Int × Int × Int) → Option R) → Option R := fun (v0, v1, v2, v3) next => ref1_Find.round0 v0 v1 v2 v3 (fun w0 w1 w2 w3 => next (w0, w1, w2, w3)) kret kexit0
theorem ref1_Find.R0_eq {R : Type} (kret : Int → Bool → Option R) (kexit0 : Option R) (v0 : List (Int × Int × Bool × Bool × Bool × Bool × List Int × Unit)) (v1 : Int) (v2 : Int) (v3 : Int) (next : ((List (Int × Int × Bool × Bool × Bool × Bool × List Int × Unit)) × Int × Int × Int) → Option R) : ref1_Find.R0 kret kexit0 (v0, v1, v2, v3) next = ref1_Find.round0 v0 v1 v2 v3 (fun w0 w1 w2 w3 => next (w0, w1, w2, w3)) kret kexit0 := rfl
def ref1_Find.loop0 {R : Type} (v0 : List (Int × Int × Bool × Bool × Bool × Bool × List Int × Unit)) (v1 : Int) (v2 : Int) (v3 : Int) (kret : Int → Bool → Option R) (kexit0 : Option R) : Option R :=
  if v0.length < 4611686018427387904 ∧ 0 ≤ v3 ∧ v3 ≤ v0.length then (match region_first v1 (IntKind.wrap IntKind.u64 (IntKind.wrap IntKind.u64 v1 + IntKind.wrap IntKind.u64 (region_size v2))) (v0.drop v3.toNat) v3 with | some j => kret j true | none => kexit0) else none
theorem ref1_Find.loop0_ok {R : Type} (v0 : List (Int × Int × Bool × Bool × Bool × Bool × List Int × Unit)) (v1 : Int) (v2 : Int) (v3 : Int) (kret : Int → Bool → Option R) (kexit0 : Option R) (r : R) (h : ref1_Find.loop0 v0 v1 v2 v3 kret kexit0 = some r) : ∃ n, lp (ref1_Find.R0 kret kexit0) n (v0, v1, v2, v3) = some r := by
  unfold ref1_Find.loop0 at h
  split at h <;> try (cases h; done)
  rename_i hc
  obtain ⟨h1, h2, h3⟩ := hc
  rw [← h]
  refine lp_spec (round := ref1_Find.R0 kret kexit0) (spec := fun (l, a, n, i) => match region_first a (IntKind.wrap IntKind.u64 (IntKind.wrap IntKind.u64 a + IntKind.wrap IntKind.u64 (region_size n))) (l.drop i.toNat) i with | some j => kret j true | none => kexit0) (inv := fun (l, a, n, i) => l = v0 ∧ 0 ≤ i ∧ i ≤ v0.length) (μ := fun (l, a, n, i) => (v0.length - i).toNat) ?_ (v0, v1, v2, v3) ⟨rfl, h2, h3⟩
  rintro ⟨l, a, n, i⟩ ⟨rfl, k1, k2⟩ next hn
  rw [ref1_Find.R0_eq, ref1_Find.round0]
  by_cases hi : i < (l.length : Int)
  · obtain ⟨x, hx, hd⟩ := getD_at (d := Ty.dflt RT) k1 hi
    have hnx := hn (l, a, n, i + 1) ⟨rfl, by omega, by omega⟩ (by simp only; omega)
    rw [decide_eq_true hi, decide_eq_true k1, hx, wrap_next k1 hi (by omega), ref1_size_eq]
    dsimp only
    simp only [Bool.and_self, Bool.cond_true, Bool.or_true]
    rw [hnx, hd, region_first]
    cases decide (a ≥ x.1) <;> cases decide (IntKind.wrap IntKind.u64 (IntKind.wrap IntKind.u64 a + IntKind.wrap IntKind.u64 (region_size n)) ≤ IntKind.wrap .u64 (IntKind.wrap .u64 x.1 + IntKind.wrap .u64 x.2.1)) <;> rfl
  · rw [decide_eq_false hi]
    dsimp only
    rw [List.drop_of_length_le (by omega)]
    rfl
def ref1_Find.C : Cfg := { rows := [], keep := [(0, [0, 1, 2, 8], []), (1000000, [6, 7], []), (2000006, [0, 1, 2, 8], []), (12000006, [0, 1, 2, 8, 46], [])], adopt := [] }
def ref1_Find.sum2000006 : FrV ref1_Find.T2000006.fr × StV ref1_Find.T2000006.st → (Ex → S → Option (List DVal)) → Option (List DVal) := fun ((v0, v1, v2, v3, ()), (())) K => ref1_Find.s2000006 v0 v1 v2 v3 (fun e0 e1 e2 e3 e4 => K .normal (pack ref1_Find.X2000006_normal ((e0, e1, e2, e3, e4, ()), (()))))
def ref1_Find.sum0 : FrV ref1_Find.T0.fr × StV ref1_Find.T0.st → (Ex → S → Option (List DVal)) → Option (List DVal) := fun ((v0, v1, v2, v3, ()), (())) K => ref1_Find.loop0 v0 v1 v2 v3 (fun e0 e1 => K .ret (pack ref1_Find.X0_ret ((e0, e1, ()), (())))) (K (.exit 0) (pack ref1_Find.X0_exit0 ((), ())))
def ref1_Find.rnd0 : FrV ref1_Find.T0.fr × StV ref1_Find.T0.st → (FrV ref1_Find.T0.fr × StV ref1_Find.T0.st → Option (List DVal)) → (Ex → S → Option (List DVal)) → Option (List DVal) := fun ((v0, v1, v2, v3, ()), (())) next K => ref1_Find.round0 v0 v1 v2 v3 (fun w0 w1 w2 w3 => next ((w0, w1, w2, w3, ()), (()))) (fun e0 e1 => K .ret (pack ref1_Find.X0_ret ((e0, e1, ()), (())))) (K (.exit 0) (pack ref1_Find.X0_exit0 ((), ())))
def ref1_Find.L : Nat → Option Sum := fun i => if i = 0 then some (sumOf ref1_Find.T0 ref1_Find.sum0) else if i = 2000006 then some (sumOf ref1_Find.T2000006 ref1_Find.sum2000006) else none
theorem ref1_Find.rnd0_eq : ∀ v (r : S → Option (List DVal)) (K : Ex → S → Option (List DVal)), exec Try.prog ref1_Find.C ref1_Find.env ref1_Find.L 0 (loopOf Try.f28 0) (pack ref1_Find.T0 v) (fun e s' => match e with | .normal => r (trim ref1_Find.C 0 s') | e => K e (trim ref1_Find.C (0 + 1000000) s')) = ref1_Find.rnd0 v (fun v' => r (pack ref1_Find.T0 v')) K :=
  fun ((v0, v1, v2, v3, ()), (())) r K => by kernel_rfl
theorem ref1_Find.lp0 (K : Ex → S → Option (List DVal)) : ∀ (n : Nat) (v0 : List (Int × Int × Bool × Bool × Bool × Bool × List Int × Unit)) (v1 : Int) (v2 : Int) (v3 : Int), lp (fun v next => ref1_Find.rnd0 v next K) n ((v0, v1, v2, v3, ()), (())) = lp (ref1_Find.R0 (fun e0 e1 => K .ret (pack ref1_Find.X0_ret ((e0, e1, ()), (())))) (K (.exit 0) (pack ref1_Find.X0_exit0 ((), ())))) n (v0, v1, v2, v3) := by
  intro n
  induction n with
  | zero => intros; rfl
  | succ n ih =>
    intro v0 v1 v2 v3
    show ref1_Find.round0 v0 v1 v2 v3 (fun w0 w1 w2 w3 => lp (fun v next => ref1_Find.rnd0 v next K) n ((w0, w1, w2, w3, ()), (()))) (fun e0 e1 => K .ret (pack ref1_Find.X0_ret ((e0, e1, ()), (())))) (K (.exit 0) (pack ref1_Find.X0_exit0 ((), ()))) = ref1_Find.round0 v0 v1 v2 v3 (fun w0 w1 w2 w3 => lp (ref1_Find.R0 (fun e0 e1 => K .ret (pack ref1_Find.X0_ret ((e0, e1, ()), (())))) (K (.exit 0) (pack ref1_Find.X0_exit0 ((), ())))) n (w0, w1, w2, w3)) (fun e0 e1 => K .ret (pack ref1_Find.X0_ret ((e0, e1, ()), (())))) (K (.exit 0) (pack ref1_Find.X0_exit0 ((), ())))
    simp only [ih]
theorem ref1_Find.sum0_ok : SumOk Try.prog ref1_Find.C ref1_Find.env ref1_Find.L 0 (loopOf Try.f28 0) := sumOk_lp (T := ref1_Find.T0) (rnd := ref1_Find.rnd0) (f := ref1_Find.sum0) rfl ref1_Find.rnd0_eq fun ((v0, v1, v2, v3, ()), (())) K r h => by
  obtain ⟨n, hn⟩ := ref1_Find.loop0_ok v0 v1 v2 v3 (fun e0 e1 => K .ret (pack ref1_Find.X0_ret ((e0, e1, ()), (())))) (K (.exit 0) (pack ref1_Find.X0_exit0 ((), ()))) r h
  exact ⟨n, by rw [ref1_Find.lp0]; exact hn⟩
theorem ref1_Find.x2000006 : ∀ v (K : Ex → S → Option (List DVal)), exec1 Try.prog ref1_Find.C ref1_Find.env ref1_Find.L (spotOf Try.f28 2000006).2.1 (spotOf Try.f28 2000006).2.2 (pack ref1_Find.T2000006 v) (fun e s' => K e (trim ref1_Find.C (2000006 + 10000000) s')) = (fun (((v0, v1, v2, v3, ()), (())) : FrV ref1_Find.T2000006.fr × StV ref1_Find.T2000006.st) => ref1_Find.o2000006 v0 v1 v2 v3 (fun e0 e1 e2 e3 e4 => K .normal (pack ref1_Find.X2000006_normal ((e0, e1, e2, e3, e4, ()), (()))))) v :=
  fun ((v0, v1, v2, v3, ()), (())) K => by kernel_rfl
theorem ref1_Find.sum2000006_ok : SpotOk Try.prog ref1_Find.C ref1_Find.env ref1_Find.L (spotOf Try.f28 2000006) := spotOk_of (T := ref1_Find.T2000006) (q := 2000006) (f := ref1_Find.sum2000006) (by kernel_rfl) (by kernel_rfl) fun ((v0, v1, v2, v3, ()), (())) K r h => (ref1_Find.x2000006 _ K).trans ((ref1_Find.s2000006_eq v0 v1 v2 v3 (fun e0 e1 e2 e3 e4 => K .normal (pack ref1_Find.X2000006_normal ((e0, e1, e2, e3, e4, ()), (()))))).symm.trans h)
def ref1_Find.tree {R : Type} (a0 : List (Int × Int × Bool × Bool × Bool × Bool × List Int × Unit)) (a1 : Int) (a2 : Int) (ret : Int → Bool → Option R) : Option R :=
  bif ref1_Check.pre a0 then bif ref1_Check a0 != (0 : Int) then ret (0 : Int) false else ref1_Find.loop0 a0 a1 a2 (0 : Int) (fun e0 e1 => ret e0 e1) (ret (0 : Int) false) else none
theorem ref1_Find.eq (a0 : List (Int × Int × Bool × Bool × Bool × Bool × List Int × Unit)) (a1 : Int) (a2 : Int) : body Try.prog ref1_Find.C ref1_Find.env ref1_Find.L Try.f28 [⟨Ty.sl RT, a0⟩, ⟨Ty.int IntKind.u32, a1⟩, ⟨Ty.int IntKind.u32, a2⟩] = ref1_Find.tree a0 a1 a2 (fun r0 r1 => some ([⟨Ty.int IntKind.i64, r0⟩, ⟨Ty.bool, r1⟩] : List DVal)) := by kernel_rfl
def ref1_Find.pre (l : List Reg) (a n : Int) : Bool := regsB l
def ref1_Find (l : List Reg) (a n : Int) : Int × Bool := region_Find l a n
theorem ref1_Find.nice {R : Type} (l : List Reg) (a n : Int) (hp : ref1_Find.pre l a n = true) (ret : Int → Bool → Option R) : ref1_Find.tree l a n ret = ret (ref1_Find l a n).1 (ref1_Find l a n).2 := by
  obtain ⟨h1, hu, hs⟩ := regsB_u hp
  unfold ref1_Find.tree ref1_Find.loop0
  rw [show ref1_Check.pre l = true from hp, if_pos ⟨by omega, by decide, by omega⟩]
  unfold ref1_Find region_Find ref1_Check
  cases region_Check l != 0
  · simp only [Bool.cond_true, Bool.cond_false]
    rw [show l.drop (Int.toNat 0) = l from rfl]
    cases region_first a (IntKind.wrap .u64 (IntKind.wrap .u64 a + IntKind.wrap .u64 (region_size n))) l 0 <;> rfl
  · rfl
def ref1_Find.ctr : Ctr := ctrOf [Ty.sl RT, Ty.int IntKind.u32, Ty.int IntKind.u32] fun x => .guard (ref1_Find.pre (x.1) (x.2.1) (x.2.2.1)) (.ret [⟨Ty.int IntKind.i64, (ref1_Find (x.1) (x.2.1) (x.2.2.1)).1⟩, ⟨Ty.bool, (ref1_Find (x.1) (x.2.1) (x.2.2.1)).2⟩])
theorem ref1_Find.known : Known Try.prog 28 ref1_Find.ctr :=
  known_plain ref1_Find.envOk mixed Try.func28 (by kernel_rfl) (by kernel_rfl) (byId (by kernel_rfl : loopIds Try.f28 = [0]) (by intro q hq; simp only [List.mem_cons, List.not_mem_nil, or_false] at hq; subst hq; first | exact ref1_Find.sum0_ok)) (bySpot (ids := [2000006]) (by kernel_rfl) (by intro q hq; simp only [List.mem_cons, List.not_mem_nil, or_false] at hq; subst hq; first | exact ref1_Find.sum2000006_ok)) fun x rs h => by
    obtain ⟨a0, a1, a2, u⟩ := x
    cases u
    simp only [Cmd.val_guard, Cmd.val_ret] at h
    split at h <;> try (cases h; done)
    rename_i hp
    exact (ref1_Find.eq a0 a1 a2).trans ((ref1_Find.nice a0 a1 a2 hp (fun r0 r1 => some ([⟨Ty.int IntKind.i64, r0⟩, ⟨Ty.bool, r1⟩] : List DVal))).trans h)

/-! ### ref1_May -/
def ref1_May.env : Env := envCons 26 ref1_Check.ctr <| envCons 39 ref1_size.ctr <| envCons 28 ref1_Find.ctr <| envNil
theorem ref1_May.envOk : EnvOk Try.prog ref1_May.env := envOk_cons ref1_Check.known (envOk_cons ref1_size.known (envOk_cons ref1_Find.known (envOk_nil _)))
def ref1_May.T2000006 : Tm := ⟨fill 0 51 [(0, Sl.data (Ty.sl RT)), (3, Sl.data Ty.bool), (9, Sl.data (Ty.int IntKind.i64)), (10, Sl.data Ty.bool)], []⟩
def ref1_May.X2000006_normal : Tm := ⟨fill 0 51 [(50, Sl.data Ty.bool)], []⟩
def ref1_May.o2000006 {R : Type} (v0 : List (Int × Int × Bool × Bool × Bool × Bool × List Int × Unit)) (v1 : Bool) (v2 : Int) (v3 : Bool) (knormal : Bool → Option R) : Option R :=
  bif !v3 then knormal true else bif v1 then bif decide ((0 : Int) ≤ v2) && decide (v2 < ↑(List.length v0)) then bif !Prod.fst (Prod.snd (Prod.snd (Prod.snd (List.getD v0 (Int.toNat v2) (Ty.dflt RT))))) then knormal true else bif !v1 then bif decide ((0 : Int) ≤ v2) && decide (v2 < ↑(List.length v0)) then knormal !Prod.fst (Prod.snd (Prod.snd (List.getD v0 (Int.toNat v2) (Ty.dflt RT)))) else none else knormal false else none else bif !v1 then bif decide ((0 : Int) ≤ v2) && decide (v2 < ↑(List.length v0)) then knormal !Prod.fst (Prod.snd (Prod.snd (List.getD v0 (Int.toNat v2) (Ty.dflt RT)))) else none else knormal false
def ref1_May.s2000006 {R : Type} (v0 : List (Int × Int × Bool × Bool × Bool × Bool × List Int × Unit)) (v1 : Bool) (v2 : Int) (v3 : Bool) (knormal : Bool → Option R) : Option R :=
  bif !v3 || bif v1 then decide ((0 : Int) ≤ v2) && decide (v2 < ↑(List.length v0)) && (!Prod.fst (Prod.snd (Prod.snd (Prod.snd (List.getD v0 (Int.toNat v2) (Ty.dflt RT))))) || (!!v1 || decide ((0 : Int) ≤ v2) && decide (v2 < ↑(List.length v0)))) else !!v1 || decide ((0 : Int) ≤ v2) && decide (v2 < ↑(List.length v0)) then knormal (!v3 || bif v1 then !Prod.fst (Prod.snd (Prod.snd (Prod.snd (List.getD v0 (Int.toNat v2) (Ty.dflt RT))))) || !v1 && !Prod.fst (Prod.snd (Prod.snd (List.getD v0 (Int.toNat v2) (Ty.dflt RT)))) else !v1 && !Prod.fst (Prod.snd (Prod.snd (List.getD v0 (Int.toNat v2) (Ty.dflt RT))))) else none
theorem ref1_May.s2000006_eq {R : Type} (v0 : List (Int × Int × Bool × Bool × Bool × Bool × List Int × Unit)) (v1 : Bool) (v2 : Int) (v3 : Bool) (knormal : Bool → Option R) : ref1_May.s2000006 v0 v1 v2 v3 knormal = ref1_May.o2000006 v0 v1 v2 v3 knormal := by
  unfold ref1_May.s2000006 ref1_May.o2000006
  (cases hc : !v3 with | false => (cases hc : v1 with | false => (cases hc : !v1 with | false => (first | rfl | simp_all) | true => (cases hc : decide ((0 : Int) ≤ v2) && decide (v2 < ↑(List.length v0)) with | false => (first | rfl | simp_all) | true => (first | rfl | simp_all))) | true => (cases hc : decide ((0 : Int) ≤ v2) && decide (v2 < ↑(List.length v0)) with | false => (first | rfl | simp_all) | true => (cases hc : !Prod.fst (Prod.snd (Prod.snd (Prod.snd (List.getD v0 (Int.toNat v2) (Ty.dflt RT))))) with | false => (cases hc : !v1 with | false => (first | rfl | simp_all) | true => (first | rfl | simp_all)) | true => (first | rfl | simp_all)))) | true => (first | rfl | simp_all))
def ref1_May.C : Cfg := { rows := [], keep := [(2000006, [0, 3, 9, 10], []), (12000006, [50], [])], adopt := [] }
def ref1_May.sum2000006 : FrV ref1_May.T2000006.fr × StV ref1_May.T2000006.st → (Ex → S → Option (List DVal)) → Option (List DVal) := fun ((v0, v1, v2, v3, ()), (())) K => ref1_May.s2000006 v0 v1 v2 v3 (fun e0 => K .normal (pack ref1_May.X2000006_normal ((e0, ()), (()))))
def ref1_May.L : Nat → Option Sum := fun i => if i = 2000006 then some (sumOf ref1_May.T2000006 ref1_May.sum2000006) else none
theorem ref1_May.x2000006 : ∀ v (K : Ex → S → Option (List DVal)), exec1 Try.prog ref1_May.C ref1_May.env ref1_May.L (spotOf Try.f30 2000006).2.1 (spotOf Try.f30 2000006).2.2 (pack ref1_May.T2000006 v) (fun e s' => K e (trim ref1_May.C (2000006 + 10000000) s')) = (fun (((v0, v1, v2, v3, ()), (())) : FrV ref1_May.T2000006.fr × StV ref1_May.T2000006.st) => ref1_May.o2000006 v0 v1 v2 v3 (fun e0 => K .normal (pack ref1_May.X2000006_normal ((e0, ()), (()))))) v :=
  fun ((v0, v1, v2, v3, ()), (())) K => by kernel_rfl
theorem ref1_May.sum2000006_ok : SpotOk Try.prog ref1_May.C ref1_May.env ref1_May.L (spotOf Try.f30 2000006) := spotOk_of (T := ref1_May.T2000006) (q := 2000006) (f := ref1_May.sum2000006) (by kernel_rfl) (by kernel_rfl) fun ((v0, v1, v2, v3, ()), (())) K r h => (ref1_May.x2000006 _ K).trans ((ref1_May.s2000006_eq v0 v1 v2 v3 (fun e0 => K .normal (pack ref1_May.X2000006_normal ((e0, ()), (()))))).symm.trans h)
def ref1_May.tree {R : Type} (a0 : List (Int × Int × Bool × Bool × Bool × Bool × List Int × Unit)) (a1 : Int) (a2 : Int) (a3 : Bool) (ret : Int → Option R) : Option R :=
  bif ref1_Check.pre a0 then bif ref1_Check a0 != (0 : Int) then ret (24 : Int) else bif ref1_size a2 != (0 : Int) then bif Int.tmod a1 (ref1_size a2) != (0 : Int) then ret (25 : Int) else bif ref1_Find.pre a0 a1 a2 then bif !Prod.snd (ref1_Find a0 a1 a2) || bif a3 then decide ((0 : Int) ≤ Prod.fst (ref1_Find a0 a1 a2)) && decide (Prod.fst (ref1_Find a0 a1 a2) < ↑(List.length a0)) && (!Prod.fst (Prod.snd (Prod.snd (Prod.snd (List.getD a0 (Int.toNat (Prod.fst (ref1_Find a0 a1 a2))) (Ty.dflt RT))))) || (!!a3 || decide ((0 : Int) ≤ Prod.fst (ref1_Find a0 a1 a2)) && decide (Prod.fst (ref1_Find a0 a1 a2) < ↑(List.length a0)))) else !!a3 || decide ((0 : Int) ≤ Prod.fst (ref1_Find a0 a1 a2)) && decide (Prod.fst (ref1_Find a0 a1 a2) < ↑(List.length a0)) then bif !Prod.snd (ref1_Find a0 a1 a2) || bif a3 then !Prod.fst (Prod.snd (Prod.snd (Prod.snd (List.getD a0 (Int.toNat (Prod.fst (ref1_Find a0 a1 a2))) (Ty.dflt RT))))) || !a3 && !Prod.fst (Prod.snd (Prod.snd (List.getD a0 (Int.toNat (Prod.fst (ref1_Find a0 a1 a2))) (Ty.dflt RT)))) else !a3 && !Prod.fst (Prod.snd (Prod.snd (List.getD a0 (Int.toNat (Prod.fst (ref1_Find a0 a1 a2))) (Ty.dflt RT)))) then ret (24 : Int) else ret (0 : Int) else none else none else none else none
theorem ref1_May.eq (a0 : List (Int × Int × Bool × Bool × Bool × Bool × List Int × Unit)) (a1 : Int) (a2 : Int) (a3 : Bool) : body Try.prog ref1_May.C ref1_May.env ref1_May.L Try.f30 [⟨Ty.sl RT, a0⟩, ⟨Ty.int IntKind.u32, a1⟩, ⟨Ty.int IntKind.u32, a2⟩, ⟨Ty.bool, a3⟩] = ref1_May.tree a0 a1 a2 a3 (fun r0 => some ([⟨Ty.int IntKind.i64, r0⟩] : List DVal)) := by kernel_rfl
def ref1_May.pre (l : List Reg) (a n : Int) (w : Bool) : Bool := regsB l
def ref1_May (l : List Reg) (a n : Int) (w : Bool) : Int := region_May l a n w
theorem ref1_May.nice {R : Type} (l : List Reg) (a n : Int) (w : Bool) (hp : ref1_May.pre l a n w = true) (ret : Int → Option R) : ref1_May.tree l a n w ret = ret (ref1_May l a n w) := by
  unfold ref1_May.tree ref1_May region_May
  rw [show ref1_Check.pre l = true from hp, show ref1_Find.pre l a n = true from hp, ref1_size_eq, region_size_ne]
  unfold ref1_Check ref1_Find
  cases hz : region_Check l != 0 with
  | true =>
    have h0 : (region_Check l == 0) = false := by
      have : region_Check l ≠ 0 := by simpa using hz
      simpa using this
    rw [h0, find_bad hz]
    rfl
  | false =>
    have h0 : region_Check l = 0 := by simpa using hz
    rw [h0]
    cases hf : (region_Find l a n).2
    · cases Int.tmod a (region_size n) != 0 <;> cases w <;> rfl
    · rw [region_Find_range l a n hf]
      unfold region_at
      generalize List.getD l (Int.toNat (region_Find l a n).1) (Ty.dflt RT) = x
      obtain ⟨x1, x2, x3, x4, x5⟩ := x
      cases Int.tmod a (region_size n) != 0 <;> cases w <;> cases x3 <;> cases x4 <;> rfl
def ref1_May.ctr : Ctr := ctrOf [Ty.sl RT, Ty.int IntKind.u32, Ty.int IntKind.u32, Ty.bool] fun x => .guard (ref1_May.pre (x.1) (x.2.1) (x.2.2.1) (x.2.2.2.1)) (.ret [⟨Ty.int IntKind.i64, ref1_May (x.1) (x.2.1) (x.2.2.1) (x.2.2.2.1)⟩])
theorem ref1_May.known : Known Try.prog 30 ref1_May.ctr :=
  known_plain ref1_May.envOk mixed Try.func30 (by kernel_rfl) (by kernel_rfl) (noLoops (by kernel_rfl)) (bySpot (ids := [2000006]) (by kernel_rfl) (by intro q hq; simp only [List.mem_cons, List.not_mem_nil, or_false] at hq; subst hq; first | exact ref1_May.sum2000006_ok)) fun x rs h => by
    obtain ⟨a0, a1, a2, a3, u⟩ := x
    cases u
    simp only [Cmd.val_guard, Cmd.val_ret] at h
    split at h <;> try (cases h; done)
    rename_i hp
    exact (ref1_May.eq a0 a1 a2 a3).trans ((ref1_May.nice a0 a1 a2 a3 hp (fun r0 => some ([⟨Ty.int IntKind.i64, r0⟩] : List DVal))).trans h)

/-! ### ref1_Secret -/
def ref1_Secret.env : Env := envCons 28 ref1_Find.ctr <| envNil
theorem ref1_Secret.envOk : EnvOk Try.prog ref1_Secret.env := envOk_cons ref1_Find.known (envOk_nil _)
def ref1_Secret.T2000002 : Tm := ⟨fill 0 24 [(0, Sl.data (Ty.sl RT)), (7, Sl.data (Ty.int IntKind.i64)), (8, Sl.data Ty.bool)], []⟩
def ref1_Secret.X2000002_normal : Tm := ⟨fill 0 24 [(6, Sl.data Ty.bool)], []⟩
def ref1_Secret.o2000002 {R : Type} (v0 : List (Int × Int × Bool × Bool × Bool × Bool × List Int × Unit)) (v1 : Int) (v2 : Bool) (knormal : Bool → Option R) : Option R :=
  bif v2 then bif decide ((0 : Int) ≤ v1) && decide (v1 < ↑(List.length v0)) then knormal (Prod.fst (Prod.snd (Prod.snd (Prod.snd (Prod.snd (Prod.snd (List.getD v0 (Int.toNat v1) (Ty.dflt RT)))))))) else none else knormal false
def ref1_Secret.s2000002 {R : Type} (v0 : List (Int × Int × Bool × Bool × Bool × Bool × List Int × Unit)) (v1 : Int) (v2 : Bool) (knormal : Bool → Option R) : Option R :=
  bif !v2 || decide ((0 : Int) ≤ v1) && decide (v1 < ↑(List.length v0)) then knormal (bif v2 then Prod.fst (Prod.snd (Prod.snd (Prod.snd (Prod.snd (Prod.snd (List.getD v0 (Int.toNat v1) (Ty.dflt RT))))))) else false) else none
theorem ref1_Secret.s2000002_eq {R : Type} (v0 : List (Int × Int × Bool × Bool × Bool × Bool × List Int × Unit)) (v1 : Int) (v2 : Bool) (knormal : Bool → Option R) : ref1_Secret.s2000002 v0 v1 v2 knormal = ref1_Secret.o2000002 v0 v1 v2 knormal := by
  unfold ref1_Secret.s2000002 ref1_Secret.o2000002
  (cases hc : v2 with | false => (first | rfl | simp_all) | true => (cases hc : decide ((0 : Int) ≤ v1) && decide (v1 < ↑(List.length v0)) with | false => (first | rfl | simp_all) | true => (first | rfl | simp_all)))
def ref1_Secret.C : Cfg := { rows := [], keep := [(2000002, [0, 7, 8], []), (12000002, [6], [])], adopt := [] }
def ref1_Secret.sum2000002 : FrV ref1_Secret.T2000002.fr × StV ref1_Secret.T2000002.st → (Ex → S → Option (List DVal)) → Option (List DVal) := fun ((v0, v1, v2, ()), (())) K => ref1_Secret.s2000002 v0 v1 v2 (fun e0 => K .normal (pack ref1_Secret.X2000002_normal ((e0, ()), (()))))
def ref1_Secret.L : Nat → Option Sum := fun i => if i = 2000002 then some (sumOf ref1_Secret.T2000002 ref1_Secret.sum2000002) else none
theorem ref1_Secret.x2000002 : ∀ v (K : Ex → S → Option (List DVal)), exec1 Try.prog ref1_Secret.C ref1_Secret.env ref1_Secret.L (spotOf Try.f32 2000002).2.1 (spotOf Try.f32 2000002).2.2 (pack ref1_Secret.T2000002 v) (fun e s' => K e (trim ref1_Secret.C (2000002 + 10000000) s')) = (fun (((v0, v1, v2, ()), (())) : FrV ref1_Secret.T2000002.fr × StV ref1_Secret.T2000002.st) => ref1_Secret.o2000002 v0 v1 v2 (fun e0 => K .normal (pack ref1_Secret.X2000002_normal ((e0, ()), (()))))) v :=
  fun ((v0, v1, v2, ()), (())) K => by kernel_rfl
theorem ref1_Secret.sum2000002_ok : SpotOk Try.prog ref1_Secret.C ref1_Secret.env ref1_Secret.L (spotOf Try.f32 2000002) := spotOk_of (T := ref1_Secret.T2000002) (q := 2000002) (f := ref1_Secret.sum2000002) (by kernel_rfl) (by kernel_rfl) fun ((v0, v1, v2, ()), (())) K r h => (ref1_Secret.x2000002 _ K).trans ((ref1_Secret.s2000002_eq v0 v1 v2 (fun e0 => K .normal (pack ref1_Secret.X2000002_normal ((e0, ()), (()))))).symm.trans h)
def ref1_Secret.tree {R : Type} (a0 : List (Int × Int × Bool × Bool × Bool × Bool × List Int × Unit)) (a1 : Int) (a2 : Int) (ret : Bool → Option R) : Option R :=
  bif ref1_Find.pre a0 a1 a2 then bif !Prod.snd (ref1_Find a0 a1 a2) || decide ((0 : Int) ≤ Prod.fst (ref1_Find a0 a1 a2)) && decide (Prod.fst (ref1_Find a0 a1 a2) < ↑(List.length a0)) then ret (bif Prod.snd (ref1_Find a0 a1 a2) then Prod.fst (Prod.snd (Prod.snd (Prod.snd (Prod.snd (Prod.snd (List.getD a0 (Int.toNat (Prod.fst (ref1_Find a0 a1 a2))) (Ty.dflt RT))))))) else false) else none else none
theorem ref1_Secret.eq (a0 : List (Int × Int × Bool × Bool × Bool × Bool × List Int × Unit)) (a1 : Int) (a2 : Int) : body Try.prog ref1_Secret.C ref1_Secret.env ref1_Secret.L Try.f32 [⟨Ty.sl RT, a0⟩, ⟨Ty.int IntKind.u32, a1⟩, ⟨Ty.int IntKind.u32, a2⟩] = ref1_Secret.tree a0 a1 a2 (fun r0 => some ([⟨Ty.bool, r0⟩] : List DVal)) := by kernel_rfl
def ref1_Secret.pre (l : List Reg) (a n : Int) : Bool := regsB l
def ref1_Secret (l : List Reg) (a n : Int) : Bool := region_Secret l a n
theorem ref1_Secret.nice {R : Type} (l : List Reg) (a n : Int) (hp : ref1_Secret.pre l a n = true) (ret : Bool → Option R) : ref1_Secret.tree l a n ret = ret (ref1_Secret l a n) := by
  unfold ref1_Secret.tree ref1_Secret region_Secret
  rw [show ref1_Find.pre l a n = true from hp]
  unfold ref1_Find
  cases hf : (region_Find l a n).2
  · rfl
  · rw [region_Find_range l a n hf]
    rfl
def ref1_Secret.ctr : Ctr := ctrOf [Ty.sl RT, Ty.int IntKind.u32, Ty.int IntKind.u32] fun x => .guard (ref1_Secret.pre (x.1) (x.2.1) (x.2.2.1)) (.ret [⟨Ty.bool, ref1_Secret (x.1) (x.2.1) (x.2.2.1)⟩])
theorem ref1_Secret.known : Known Try.prog 32 ref1_Secret.ctr :=
  known_plain ref1_Secret.envOk mixed Try.func32 (by kernel_rfl) (by kernel_rfl) (noLoops (by kernel_rfl)) (bySpot (ids := [2000002]) (by kernel_rfl) (by intro q hq; simp only [List.mem_cons, List.not_mem_nil, or_false] at hq; subst hq; first | exact ref1_Secret.sum2000002_ok)) fun x rs h => by
    obtain ⟨a0, a1, a2, u⟩ := x
    cases u
    simp only [Cmd.val_guard, Cmd.val_ret] at h
    split at h <;> try (cases h; done)
    rename_i hp
    exact (ref1_Secret.eq a0 a1 a2).trans ((ref1_Secret.nice a0 a1 a2 hp (fun r0 => some ([⟨Ty.bool, r0⟩] : List DVal))).trans h)

/-! ### ref1_Fixed -/
def ref1_Fixed.env : Env := envCons 28 ref1_Find.ctr <| envNil
theorem ref1_Fixed.envOk : EnvOk Try.prog ref1_Fixed.env := envOk_cons ref1_Find.known (envOk_nil _)
def ref1_Fixed.T2000002 : Tm := ⟨fill 0 40 [(0, Sl.data (Ty.sl RT)), (7, Sl.data (Ty.int IntKind.i64)), (8, Sl.data Ty.bool)], []⟩
def ref1_Fixed.X2000002_normal : Tm := ⟨fill 0 40 [(6, Sl.data Ty.bool)], []⟩
def ref1_Fixed.o2000002 {R : Type} (v0 : List (Int × Int × Bool × Bool × Bool × Bool × List Int × Unit)) (v1 : Int) (v2 : Bool) (knormal : Bool → Option R) : Option R :=
  bif v2 then bif decide ((0 : Int) ≤ v1) && decide (v1 < ↑(List.length v0)) then bif Prod.fst (Prod.snd (Prod.snd (List.getD v0 (Int.toNat v1) (Ty.dflt RT)))) then bif decide ((0 : Int) ≤ v1) && decide (v1 < ↑(List.length v0)) then bif !Prod.fst (Prod.snd (Prod.snd (Prod.snd (List.getD v0 (Int.toNat v1) (Ty.dflt RT))))) then bif decide ((0 : Int) ≤ v1) && decide (v1 < ↑(List.length v0)) then knormal !Prod.fst (Prod.snd (Prod.snd (Prod.snd (Prod.snd (Prod.snd (List.getD v0 (Int.toNat v1) (Ty.dflt RT))))))) else none else knormal false else none else knormal false else none else knormal false
def ref1_Fixed.s2000002 {R : Type} (v0 : List (Int × Int × Bool × Bool × Bool × Bool × List Int × Unit)) (v1 : Int) (v2 : Bool) (knormal : Bool → Option R) : Option R :=
  bif !v2 || decide ((0 : Int) ≤ v1) && decide (v1 < ↑(List.length v0)) && (!Prod.fst (Prod.snd (Prod.snd (List.getD v0 (Int.toNat v1) (Ty.dflt RT)))) || decide ((0 : Int) ≤ v1) && decide (v1 < ↑(List.length v0)) && (!!Prod.fst (Prod.snd (Prod.snd (Prod.snd (List.getD v0 (Int.toNat v1) (Ty.dflt RT))))) || decide ((0 : Int) ≤ v1) && decide (v1 < ↑(List.length v0)))) then knormal (v2 && (Prod.fst (Prod.snd (Prod.snd (List.getD v0 (Int.toNat v1) (Ty.dflt RT)))) && (!Prod.fst (Prod.snd (Prod.snd (Prod.snd (List.getD v0 (Int.toNat v1) (Ty.dflt RT))))) && !Prod.fst (Prod.snd (Prod.snd (Prod.snd (Prod.snd (Prod.snd (List.getD v0 (Int.toNat v1) (Ty.dflt RT)))))))))) else none
theorem ref1_Fixed.s2000002_eq {R : Type} (v0 : List (Int × Int × Bool × Bool × Bool × Bool × List Int × Unit)) (v1 : Int) (v2 : Bool) (knormal : Bool → Option R) : ref1_Fixed.s2000002 v0 v1 v2 knormal = ref1_Fixed.o2000002 v0 v1 v2 knormal := by
  unfold ref1_Fixed.s2000002 ref1_Fixed.o2000002
  (cases hc : v2 with | false => (first | rfl | simp_all) | true => (cases hc : decide ((0 : Int) ≤ v1) && decide (v1 < ↑(List.length v0)) with | false => (first | rfl | simp_all) | true => (cases hc : Prod.fst (Prod.snd (Prod.snd (List.getD v0 (Int.toNat v1) (Ty.dflt RT)))) with | false => (first | rfl | simp_all) | true => (cases hc : !Prod.fst (Prod.snd (Prod.snd (Prod.snd (List.getD v0 (Int.toNat v1) (Ty.dflt RT))))) with | false => (first | rfl | simp_all) | true => (first | rfl | simp_all)))))
def ref1_Fixed.C : Cfg := { rows := [], keep := [(2000002, [0, 7, 8], []), (12000002, [6], [])], adopt := [] }
def ref1_Fixed.sum2000002 : FrV ref1_Fixed.T2000002.fr × StV ref1_Fixed.T2000002.st → (Ex → S → Option (List DVal)) → Option (List DVal) := fun ((v0, v1, v2, ()), (())) K => ref1_Fixed.s2000002 v0 v1 v2 (fun e0 => K .normal (pack ref1_Fixed.X2000002_normal ((e0, ()), (()))))
def ref1_Fixed.L : Nat → Option Sum := fun i => if i = 2000002 then some (sumOf ref1_Fixed.T2000002 ref1_Fixed.sum2000002) else none
theorem ref1_Fixed.x2000002 : ∀ v (K : Ex → S → Option (List DVal)), exec1 Try.prog ref1_Fixed.C ref1_Fixed.env ref1_Fixed.L (spotOf Try.f34 2000002).2.1 (spotOf Try.f34 2000002).2.2 (pack ref1_Fixed.T2000002 v) (fun e s' => K e (trim ref1_Fixed.C (2000002 + 10000000) s')) = (fun (((v0, v1, v2, ()), (())) : FrV ref1_Fixed.T2000002.fr × StV ref1_Fixed.T2000002.st) => ref1_Fixed.o2000002 v0 v1 v2 (fun e0 => K .normal (pack ref1_Fixed.X2000002_normal ((e0, ()), (()))))) v :=
  fun ((v0, v1, v2, ()), (())) K => by kernel_rfl
theorem ref1_Fixed.sum2000002_ok : SpotOk Try.prog ref1_Fixed.C ref1_Fixed.env ref1_Fixed.L (spotOf Try.f34 2000002) := spotOk_of (T := ref1_Fixed.T2000002) (q := 2000002) (f := ref1_Fixed.sum2000002) (by kernel_rfl) (by kernel_rfl) fun ((v0, v1, v2, ()), (())) K r h => (ref1_Fixed.x2000002 _ K).trans ((ref1_Fixed.s2000002_eq v0 v1 v2 (fun e0 => K .normal (pack ref1_Fixed.X2000002_normal ((e0, ()), (()))))).symm.trans h)
def ref1_Fixed.tree {R : Type} (a0 : List (Int × Int × Bool × Bool × Bool × Bool × List Int × Unit)) (a1 : Int) (a2 : Int) (ret : Bool → Option R) : Option R :=
  bif ref1_Find.pre a0 a1 a2 then bif !Prod.snd (ref1_Find a0 a1 a2) || decide ((0 : Int) ≤ Prod.fst (ref1_Find a0 a1 a2)) && decide (Prod.fst (ref1_Find a0 a1 a2) < ↑(List.length a0)) && (!Prod.fst (Prod.snd (Prod.snd (List.getD a0 (Int.toNat (Prod.fst (ref1_Find a0 a1 a2))) (Ty.dflt RT)))) || decide ((0 : Int) ≤ Prod.fst (ref1_Find a0 a1 a2)) && decide (Prod.fst (ref1_Find a0 a1 a2) < ↑(List.length a0)) && (!!Prod.fst (Prod.snd (Prod.snd (Prod.snd (List.getD a0 (Int.toNat (Prod.fst (ref1_Find a0 a1 a2))) (Ty.dflt RT))))) || decide ((0 : Int) ≤ Prod.fst (ref1_Find a0 a1 a2)) && decide (Prod.fst (ref1_Find a0 a1 a2) < ↑(List.length a0)))) then ret (Prod.snd (ref1_Find a0 a1 a2) && (Prod.fst (Prod.snd (Prod.snd (List.getD a0 (Int.toNat (Prod.fst (ref1_Find a0 a1 a2))) (Ty.dflt RT)))) && (!Prod.fst (Prod.snd (Prod.snd (Prod.snd (List.getD a0 (Int.toNat (Prod.fst (ref1_Find a0 a1 a2))) (Ty.dflt RT))))) && !Prod.fst (Prod.snd (Prod.snd (Prod.snd (Prod.snd (Prod.snd (List.getD a0 (Int.toNat (Prod.fst (ref1_Find a0 a1 a2))) (Ty.dflt RT)))))))))) else none else none
theorem ref1_Fixed.eq (a0 : List (Int × Int × Bool × Bool × Bool × Bool × List Int × Unit)) (a1 : Int) (a2 : Int) : body Try.prog ref1_Fixed.C ref1_Fixed.env ref1_Fixed.L Try.f34 [⟨Ty.sl RT, a0⟩, ⟨Ty.int IntKind.u32, a1⟩, ⟨Ty.int IntKind.u32, a2⟩] = ref1_Fixed.tree a0 a1 a2 (fun r0 => some ([⟨Ty.bool, r0⟩] : List DVal)) := by kernel_rfl
def ref1_Fixed.pre (l : List Reg) (a n : Int) : Bool := regsB l
def ref1_Fixed (l : List Reg) (a n : Int) : Bool := region_Fixed l a n
theorem ref1_Fixed.nice {R : Type} (l : List Reg) (a n : Int) (hp : ref1_Fixed.pre l a n = true) (ret : Bool → Option R) : ref1_Fixed.tree l a n ret = ret (ref1_Fixed l a n) := by
  unfold ref1_Fixed.tree ref1_Fixed region_Fixed
  rw [show ref1_Find.pre l a n = true from hp]
  unfold ref1_Find
  cases hf : (region_Find l a n).2
  · rfl
  · rw [region_Find_range l a n hf]
    unfold region_at
    generalize List.getD l (Int.toNat (region_Find l a n).1) (Ty.dflt RT) = x
    obtain ⟨x1, x2, x3, x4, x5, x6, x7⟩ := x
    cases x3 <;> cases x4 <;> cases x6 <;> rfl
def ref1_Fixed.ctr : Ctr := ctrOf [Ty.sl RT, Ty.int IntKind.u32, Ty.int IntKind.u32] fun x => .guard (ref1_Fixed.pre (x.1) (x.2.1) (x.2.2.1)) (.ret [⟨Ty.bool, ref1_Fixed (x.1) (x.2.1) (x.2.2.1)⟩])
theorem ref1_Fixed.known : Known Try.prog 34 ref1_Fixed.ctr :=
  known_plain ref1_Fixed.envOk mixed Try.func34 (by kernel_rfl) (by kernel_rfl) (noLoops (by kernel_rfl)) (bySpot (ids := [2000002]) (by kernel_rfl) (by intro q hq; simp only [List.mem_cons, List.not_mem_nil, or_false] at hq; subst hq; first | exact ref1_Fixed.sum2000002_ok)) fun x rs h => by
    obtain ⟨a0, a1, a2, u⟩ := x
    cases u
    simp only [Cmd.val_guard, Cmd.val_ret] at h
    split at h <;> try (cases h; done)
    rename_i hp
    exact (ref1_Fixed.eq a0 a1 a2).trans ((ref1_Fixed.nice a0 a1 a2 hp (fun r0 => some ([⟨Ty.bool, r0⟩] : List DVal))).trans h)

/-! ### ref1_Exec -/
def ref1_Exec.env : Env := envCons 28 ref1_Find.ctr <| envNil
theorem ref1_Exec.envOk : EnvOk Try.prog ref1_Exec.env := envOk_cons ref1_Find.known (envOk_nil _)
def ref1_Exec.T2000002 : Tm := ⟨fill 0 28 [(0, Sl.data (Ty.sl RT)), (1, Sl.data (Ty.int IntKind.u32)), (5, Sl.data (Ty.int IntKind.i64)), (6, Sl.data Ty.bool)], []⟩
def ref1_Exec.X2000002_normal : Tm := ⟨fill 0 28 [(27, Sl.data Ty.bool)], []⟩
def ref1_Exec.o2000002 {R : Type} (v0 : List (Int × Int × Bool × Bool × Bool × Bool × List Int × Unit)) (v1 : Int) (v2 : Int) (v3 : Bool) (knormal : Bool → Option R) : Option R :=
  bif !v3 then knormal true else bif Int.tmod v1 (2 : Int) == (1 : Int) then knormal true else bif decide ((0 : Int) ≤ v2) && decide (v2 < ↑(List.length v0)) then knormal !Prod.fst (Prod.snd (Prod.snd (Prod.snd (Prod.snd (List.getD v0 (Int.toNat v2) (Ty.dflt RT)))))) else none
def ref1_Exec.s2000002 {R : Type} (v0 : List (Int × Int × Bool × Bool × Bool × Bool × List Int × Unit)) (v1 : Int) (v2 : Int) (v3 : Bool) (knormal : Bool → Option R) : Option R :=
  bif !v3 || (Int.tmod v1 (2 : Int) == (1 : Int) || decide ((0 : Int) ≤ v2) && decide (v2 < ↑(List.length v0))) then knormal (!v3 || (Int.tmod v1 (2 : Int) == (1 : Int) || !Prod.fst (Prod.snd (Prod.snd (Prod.snd (Prod.snd (List.getD v0 (Int.toNat v2) (Ty.dflt RT)))))))) else none
theorem ref1_Exec.s2000002_eq {R : Type} (v0 : List (Int × Int × Bool × Bool × Bool × Bool × List Int × Unit)) (v1 : Int) (v2 : Int) (v3 : Bool) (knormal : Bool → Option R) : ref1_Exec.s2000002 v0 v1 v2 v3 knormal = ref1_Exec.o2000002 v0 v1 v2 v3 knormal := by
  unfold ref1_Exec.s2000002 ref1_Exec.o2000002
  (cases hc : !v3 with | false => (cases hc : Int.tmod v1 (2 : Int) == (1 : Int) with | false => (cases hc : decide ((0 : Int) ≤ v2) && decide (v2 < ↑(List.length v0)) with | false => (first | rfl | simp_all) | true => (first | rfl | simp_all)) | true => (first | rfl | simp_all)) | true => (first | rfl | simp_all))
def ref1_Exec.C : Cfg := { rows := [], keep := [(2000002, [0, 1, 5, 6], []), (12000002, [27], [])], adopt := [] }
def ref1_Exec.sum2000002 : FrV ref1_Exec.T2000002.fr × StV ref1_Exec.T2000002.st → (Ex → S → Option (List DVal)) → Option (List DVal) := fun ((v0, v1, v2, v3, ()), (())) K => ref1_Exec.s2000002 v0 v1 v2 v3 (fun e0 => K .normal (pack ref1_Exec.X2000002_normal ((e0, ()), (()))))
def ref1_Exec.L : Nat → Option Sum := fun i => if i = 2000002 then some (sumOf ref1_Exec.T2000002 ref1_Exec.sum2000002) else none
theorem ref1_Exec.x2000002 : ∀ v (K : Ex → S → Option (List DVal)), exec1 Try.prog ref1_Exec.C ref1_Exec.env ref1_Exec.L (spotOf Try.f36 2000002).2.1 (spotOf Try.f36 2000002).2.2 (pack ref1_Exec.T2000002 v) (fun e s' => K e (trim ref1_Exec.C (2000002 + 10000000) s')) = (fun (((v0, v1, v2, v3, ()), (())) : FrV ref1_Exec.T2000002.fr × StV ref1_Exec.T2000002.st) => ref1_Exec.o2000002 v0 v1 v2 v3 (fun e0 => K .normal (pack ref1_Exec.X2000002_normal ((e0, ()), (()))))) v :=
  fun ((v0, v1, v2, v3, ()), (())) K => by kernel_rfl
theorem ref1_Exec.sum2000002_ok : SpotOk Try.prog ref1_Exec.C ref1_Exec.env ref1_Exec.L (spotOf Try.f36 2000002) := spotOk_of (T := ref1_Exec.T2000002) (q := 2000002) (f := ref1_Exec.sum2000002) (by kernel_rfl) (by kernel_rfl) fun ((v0, v1, v2, v3, ()), (())) K r h => (ref1_Exec.x2000002 _ K).trans ((ref1_Exec.s2000002_eq v0 v1 v2 v3 (fun e0 => K .normal (pack ref1_Exec.X2000002_normal ((e0, ()), (()))))).symm.trans h)
def ref1_Exec.tree {R : Type} (a0 : List (Int × Int × Bool × Bool × Bool × Bool × List Int × Unit)) (a1 : Int) (ret : Int → Option R) : Option R :=
  bif ref1_Find.pre a0 a1 (2 : Int) then bif !Prod.snd (ref1_Find a0 a1 (2 : Int)) || (Int.tmod a1 (2 : Int) == (1 : Int) || decide ((0 : Int) ≤ Prod.fst (ref1_Find a0 a1 (2 : Int))) && decide (Prod.fst (ref1_Find a0 a1 (2 : Int)) < ↑(List.length a0))) then bif !Prod.snd (ref1_Find a0 a1 (2 : Int)) || (Int.tmod a1 (2 : Int) == (1 : Int) || !Prod.fst (Prod.snd (Prod.snd (Prod.snd (Prod.snd (List.getD a0 (Int.toNat (Prod.fst (ref1_Find a0 a1 (2 : Int)))) (Ty.dflt RT))))))) then ret (26 : Int) else ret (0 : Int) else none else none
theorem ref1_Exec.eq (a0 : List (Int × Int × Bool × Bool × Bool × Bool × List Int × Unit)) (a1 : Int) : body Try.prog ref1_Exec.C ref1_Exec.env ref1_Exec.L Try.f36 [⟨Ty.sl RT, a0⟩, ⟨Ty.int IntKind.u32, a1⟩] = ref1_Exec.tree a0 a1 (fun r0 => some ([⟨Ty.int IntKind.i64, r0⟩] : List DVal)) := by kernel_rfl
def ref1_Exec.pre (l : List Reg) (a : Int) : Bool := regsB l && decide (0 ≤ a)
def ref1_Exec (l : List Reg) (a : Int) : Int := region_Exec l a
theorem ref1_Exec.nice {R : Type} (l : List Reg) (a : Int) (hp : ref1_Exec.pre l a = true) (ret : Int → Option R) : ref1_Exec.tree l a ret = ret (ref1_Exec l a) := by
  unfold ref1_Exec.pre at hp
  simp only [Bool.and_eq_true, decide_eq_true_eq] at hp
  obtain ⟨hp, ha⟩ := hp
  have h2 : (Int.tmod a 2 == 1) = (Int.tmod a 2 != 0) := by
    rw [Int.tmod_eq_emod_of_nonneg ha, Bool.eq_iff_iff]
    simp only [beq_iff_eq, bne_iff_ne, ne_eq]
    omega
  unfold ref1_Exec.tree ref1_Exec region_Exec
  rw [show ref1_Find.pre l a 2 = true from hp]
  unfold ref1_Find
  cases hf : (region_Find l a 2).2
  · simp
  · rw [region_Find_range l a 2 hf]
    unfold region_at
    generalize List.getD l (Int.toNat (region_Find l a 2).1) (Ty.dflt RT) = x
    obtain ⟨x1, x2, x3, x4, x5, x6⟩ := x
    rw [h2]
    cases Int.tmod a 2 != 0 <;> cases x5 <;> rfl
def ref1_Exec.ctr : Ctr := ctrOf [Ty.sl RT, Ty.int IntKind.u32] fun x => .guard (ref1_Exec.pre (x.1) (x.2.1)) (.ret [⟨Ty.int IntKind.i64, ref1_Exec (x.1) (x.2.1)⟩])
theorem ref1_Exec.known : Known Try.prog 36 ref1_Exec.ctr :=
  known_plain ref1_Exec.envOk mixed Try.func36 (by kernel_rfl) (by kernel_rfl) (noLoops (by kernel_rfl)) (bySpot (ids := [2000002]) (by kernel_rfl) (by intro q hq; simp only [List.mem_cons, List.not_mem_nil, or_false] at hq; subst hq; first | exact ref1_Exec.sum2000002_ok)) fun x rs h => by
    obtain ⟨a0, a1, u⟩ := x
    cases u
    simp only [Cmd.val_guard, Cmd.val_ret] at h
    split at h <;> try (cases h; done)
    rename_i hp
    exact (ref1_Exec.eq a0 a1).trans ((ref1_Exec.nice a0 a1 hp (fun r0 => some ([⟨Ty.int IntKind.i64, r0⟩] : List DVal))).trans h)

/-! ### help_Regions -/
def help_Regions.env : Env := envNil
theorem help_Regions.envOk : EnvOk Try.prog help_Regions.env := envOk_nil _
def help_Regions.T0 : Tm := ⟨fill 0 20 [(0, Sl.data (Ty.sl RT)), (3, Sl.data (Ty.int IntKind.i64))], []⟩
def help_Regions.X0_ret : Tm := ⟨fill 0 20 [(0, Sl.data (Ty.sl RT)), (2, Sl.data Ty.bool)], []⟩
def help_Regions.X0_exit0 : Tm := ⟨fill 0 20 [(0, Sl.data (Ty.sl RT))], []⟩
def help_Regions.round0 {R : Type} (v0 : List (Int × Int × Bool × Bool × Bool × Bool × List Int × Unit)) (v1 : Int) (next : (List (Int × Int × Bool × Bool × Bool × Bool × List Int × Unit)) → Int → Option R) (kret : (List (Int × Int × Bool × Bool × Bool × Bool × List Int × Unit)) → Bool → Option R) (kexit0 : (List (Int × Int × Bool × Bool × Bool × Bool × List Int × Unit)) → Option R) : Option R :=
  bif decide (v1 < ↑(List.length v0)) then bif decide ((0 : Int) ≤ v1) && decide (v1 < ↑(List.length v0)) then bif decide (↑(List.length (Prod.fst (Prod.snd (Prod.snd (Prod.snd (Prod.snd (Prod.snd (Prod.snd (List.getD v0 (Int.toNat v1) (Ty.dflt RT)))))))))) > (200 : Int)) then kret v0 false else next v0 (IntKind.wrap IntKind.i64 (v1 + (1 : Int))) else none else kexit0 v0
def help_Regions.R0 {R : Type} (kret : (List (Int × Int × Bool × Bool × Bool × Bool × List Int × Unit)) → Bool → Option R) (kexit0 : (List (Int × Int × Bool × Bool × Bool × Bool × List Int × Unit)) → Option R) : ((List (Int × Int × Bool × Bool × Bool × Bool × List Int × Unit)) × Int) → (((List (Int × Int × Bool × Bool × Bool × Bool × List Int × Unit)) × Int) → Option R) → Option R := fun (v0, v1) next => help_Regions.round0 v0 v1 (fun w0 w1 => next (w0, w1)) kret kexit0
theorem help_Regions.R0_eq {R : Type} (kret : (List (Int × Int × Bool × Bool × Bool × Bool × List Int × Unit)) → Bool → Option R) (kexit0 : (List (Int × Int × Bool × Bool × Bool × Bool × List Int × Unit)) → Option R) (v0 : List (Int × Int × Bool × Bool × Bool × Bool × List Int × Unit)) (v1 : Int) (next : ((List (Int × Int × Bool × Bool × Bool × Bool × List Int × Unit)) × Int) → Option R) : help_Regions.R0 kret kexit0 (v0, v1) next = help_Regions.round0 v0 v1 (fun w0 w1 => next (w0, w1)) kret kexit0 := rfl
def help_short (r : Reg) : Bool := !decide ((r.2.2.2.2.2.2.1.length : Int) > 200)
def help_Regions.loop0 {R : Type} (v0 : List (Int × Int × Bool × Bool × Bool × Bool × List Int × Unit)) (v1 : Int) (kret : (List (Int × Int × Bool × Bool × Bool × Bool × List Int × Unit)) → Bool → Option R) (kexit0 : (List (Int × Int × Bool × Bool × Bool × Bool × List Int × Unit)) → Option R) : Option R :=
  if v0.length < 4611686018427387904 ∧ 0 ≤ v1 ∧ v1 ≤ v0.length then (bif (v0.drop v1.toNat).all help_short then kexit0 v0 else kret v0 false) else none
theorem help_Regions.loop0_ok {R : Type} (v0 : List (Int × Int × Bool × Bool × Bool × Bool × List Int × Unit)) (v1 : Int) (kret : (List (Int × Int × Bool × Bool × Bool × Bool × List Int × Unit)) → Bool → Option R) (kexit0 : (List (Int × Int × Bool × Bool × Bool × Bool × List Int × Unit)) → Option R) (r : R) (h : help_Regions.loop0 v0 v1 kret kexit0 = some r) : ∃ n, lp (help_Regions.R0 kret kexit0) n (v0, v1) = some r := by
  unfold help_Regions.loop0 at h
  split at h <;> try (cases h; done)
  rename_i hc
  obtain ⟨h1, h2, h3⟩ := hc
  rw [← h]
  refine lp_spec (round := help_Regions.R0 kret kexit0) (spec := fun (l, i) => bif (l.drop i.toNat).all help_short then kexit0 l else kret l false) (inv := fun (l, i) => l = v0 ∧ 0 ≤ i ∧ i ≤ v0.length) (μ := fun (l, i) => (v0.length - i).toNat) ?_ (v0, v1) ⟨rfl, h2, h3⟩
  rintro ⟨l, i⟩ ⟨rfl, k1, k2⟩ next hn
  rw [help_Regions.R0_eq, help_Regions.round0]
  by_cases hi : i < (l.length : Int)
  · obtain ⟨x, hx, hd⟩ := getD_at (d := Ty.dflt RT) k1 hi
    have hnx := hn (l, i + 1) ⟨rfl, by omega, by omega⟩ (by simp only; omega)
    rw [decide_eq_true hi, decide_eq_true k1, hx, wrap_next k1 hi (by omega)]
    dsimp only
    simp only [Bool.and_self, Bool.cond_true]
    rw [hnx, hd, List.all_cons, help_short]
    cases decide ((x.2.2.2.2.2.2.1.length : Int) > 200) <;> rfl
  · rw [decide_eq_false hi]
    dsimp only
    rw [List.drop_of_length_le (by omega)]
    rfl
def help_Regions.C : Cfg := { rows := [], keep := [(0, [0, 3], []), (1000000, [0, 2], [])], adopt := [] }
def help_Regions.sum0 : FrV help_Regions.T0.fr × StV help_Regions.T0.st → (Ex → S → Option (List DVal)) → Option (List DVal) := fun ((v0, v1, ()), (())) K => help_Regions.loop0 v0 v1 (fun e0 e1 => K .ret (pack help_Regions.X0_ret ((e0, e1, ()), (())))) (fun e0 => K (.exit 0) (pack help_Regions.X0_exit0 ((e0, ()), (()))))
def help_Regions.rnd0 : FrV help_Regions.T0.fr × StV help_Regions.T0.st → (FrV help_Regions.T0.fr × StV help_Regions.T0.st → Option (List DVal)) → (Ex → S → Option (List DVal)) → Option (List DVal) := fun ((v0, v1, ()), (())) next K => help_Regions.round0 v0 v1 (fun w0 w1 => next ((w0, w1, ()), (()))) (fun e0 e1 => K .ret (pack help_Regions.X0_ret ((e0, e1, ()), (())))) (fun e0 => K (.exit 0) (pack help_Regions.X0_exit0 ((e0, ()), (()))))
def help_Regions.L : Nat → Option Sum := fun i => if i = 0 then some (sumOf help_Regions.T0 help_Regions.sum0) else none
theorem help_Regions.rnd0_eq : ∀ v (r : S → Option (List DVal)) (K : Ex → S → Option (List DVal)), exec Try.prog help_Regions.C help_Regions.env help_Regions.L 0 (loopOf Try.f22 0) (pack help_Regions.T0 v) (fun e s' => match e with | .normal => r (trim help_Regions.C 0 s') | e => K e (trim help_Regions.C (0 + 1000000) s')) = help_Regions.rnd0 v (fun v' => r (pack help_Regions.T0 v')) K :=
  fun ((v0, v1, ()), (())) r K => by kernel_rfl
theorem help_Regions.lp0 (K : Ex → S → Option (List DVal)) : ∀ (n : Nat) (v0 : List (Int × Int × Bool × Bool × Bool × Bool × List Int × Unit)) (v1 : Int), lp (fun v next => help_Regions.rnd0 v next K) n ((v0, v1, ()), (())) = lp (help_Regions.R0 (fun e0 e1 => K .ret (pack help_Regions.X0_ret ((e0, e1, ()), (())))) (fun e0 => K (.exit 0) (pack help_Regions.X0_exit0 ((e0, ()), (()))))) n (v0, v1) := by
  intro n
  induction n with
  | zero => intros; rfl
  | succ n ih =>
    intro v0 v1
    show help_Regions.round0 v0 v1 (fun w0 w1 => lp (fun v next => help_Regions.rnd0 v next K) n ((w0, w1, ()), (()))) (fun e0 e1 => K .ret (pack help_Regions.X0_ret ((e0, e1, ()), (())))) (fun e0 => K (.exit 0) (pack help_Regions.X0_exit0 ((e0, ()), (())))) = help_Regions.round0 v0 v1 (fun w0 w1 => lp (help_Regions.R0 (fun e0 e1 => K .ret (pack help_Regions.X0_ret ((e0, e1, ()), (())))) (fun e0 => K (.exit 0) (pack help_Regions.X0_exit0 ((e0, ()), (()))))) n (w0, w1)) (fun e0 e1 => K .ret (pack help_Regions.X0_ret ((e0, e1, ()), (())))) (fun e0 => K (.exit 0) (pack help_Regions.X0_exit0 ((e0, ()), (()))))
    simp only [ih]
theorem help_Regions.sum0_ok : SumOk Try.prog help_Regions.C help_Regions.env help_Regions.L 0 (loopOf Try.f22 0) := sumOk_lp (T := help_Regions.T0) (rnd := help_Regions.rnd0) (f := help_Regions.sum0) rfl help_Regions.rnd0_eq fun ((v0, v1, ()), (())) K r h => by
  obtain ⟨n, hn⟩ := help_Regions.loop0_ok v0 v1 (fun e0 e1 => K .ret (pack help_Regions.X0_ret ((e0, e1, ()), (())))) (fun e0 => K (.exit 0) (pack help_Regions.X0_exit0 ((e0, ()), (())))) r h
  exact ⟨n, by rw [help_Regions.lp0]; exact hn⟩
def help_Regions.tree {R : Type} (a0 : List (Int × Int × Bool × Bool × Bool × Bool × List Int × Unit)) (ret : Bool → Option R) : Option R :=
  help_Regions.loop0 a0 (0 : Int) (fun e0 e1 => ret e1) fun e0 => ret (decide (↑(List.length e0) ≤ (10 : Int)))
theorem help_Regions.eq (a0 : List (Int × Int × Bool × Bool × Bool × Bool × List Int × Unit)) : body Try.prog help_Regions.C help_Regions.env help_Regions.L Try.f22 [⟨Ty.sl RT, a0⟩] = help_Regions.tree a0 (fun r0 => some ([⟨Ty.bool, r0⟩] : List DVal)) := by kernel_rfl
def help_Regions.pre (l : List Reg) : Bool := Nat.ble l.length 4611686018427387903
def help_Regions (l : List Reg) : Bool := l.all help_short && decide ((l.length : Int) ≤ 10)
theorem help_Regions.nice {R : Type} (l : List Reg) (hp : help_Regions.pre l = true) (ret : Bool → Option R) : help_Regions.tree l ret = ret (help_Regions l) := by
  have hl := region_pre hp
  unfold help_Regions.tree help_Regions.loop0 help_Regions
  rw [if_pos ⟨by omega, by decide, by omega⟩, show l.drop (Int.toNat 0) = l from rfl]
  cases l.all help_short <;> rfl

def help_Regions.ctr : Ctr := ctrOf [Ty.sl RT] fun x => .guard (help_Regions.pre (x.1)) (.ret [⟨Ty.bool, help_Regions (x.1)⟩])
theorem help_Regions.known : Known Try.prog 22 help_Regions.ctr :=
  known_plain help_Regions.envOk mixed Try.func22 (by kernel_rfl) (by kernel_rfl) (byId (by kernel_rfl : loopIds Try.f22 = [0]) (by intro q hq; simp only [List.mem_cons, List.not_mem_nil, or_false] at hq; subst hq; first | exact help_Regions.sum0_ok)) (noSpots (by kernel_rfl)) fun x rs h => by
    obtain ⟨a0, u⟩ := x
    cases u
    simp only [Cmd.val_guard, Cmd.val_ret] at h
    split at h <;> try (cases h; done)
    rename_i hp
    exact (help_Regions.eq a0).trans ((help_Regions.nice a0 hp (fun r0 => some ([⟨Ty.bool, r0⟩] : List DVal))).trans h)
end
end Go.D.Ytmdnddoiopgboaa
