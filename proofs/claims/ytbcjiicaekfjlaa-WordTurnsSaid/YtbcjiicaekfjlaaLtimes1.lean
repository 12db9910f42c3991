import Derived.Test.YtbcjiicaekfjlaaChecked
import Derived.Test.YtbcjiicaekfjlaaDX
import Derived.KernelRfl
import Derived.Test.YtbcjiicaekfjlaaLlaw1
namespace Go.D.Ytbcjiicaekfjlaa
open Go.Proofs
set_option linter.unusedVariables false
set_option linter.unusedSimpArgs false
set_option maxRecDepth 100000
noncomputable section


/-! ### law1_WordTimes -/
def law1_WordTimes.env : Env := envCons 25 law1_known.ctr <| envCons 48 word_Mul64.ctr <| envCons 49 ref1_Mul64.ctr <| envCons 50 word_DivU.ctr <| envCons 51 ref1_DivU.ctr <| envCons 52 word_DivS.ctr <| envCons 53 ref1_DivS.ctr <| envNil
theorem law1_WordTimes.envOk : EnvOk Try.prog law1_WordTimes.env := envOk_cons law1_known.known (envOk_cons word_Mul64.known (envOk_cons ref1_Mul64.known (envOk_cons word_DivU.known (envOk_cons ref1_DivU.known (envOk_cons word_DivS.known (envOk_cons ref1_DivS.known (envOk_nil _)))))))
theorem mask_u64 (x : Int) : IntKind.wrap .u32 (bitop .and .u64 x 4294967295) = IntKind.wrap .u32 x := by
  have h : (BitVec.ofInt 64 x &&& BitVec.ofInt 64 4294967295).toNat = (x % 18446744073709551616).toNat % 4294967296 := by
    rw [BitVec.toNat_and, BitVec.toNat_ofInt, BitVec.toNat_ofInt]
    exact Nat.and_two_pow_sub_one_eq_mod _ 32
  change IntKind.wrap .u32 (IntKind.wrap .u64 ((BitVec.ofInt 64 x &&& BitVec.ofInt 64 4294967295).toNat : Int)) = _
  rw [h, IntKind.wrap_u32, IntKind.wrap_u32, IntKind.wrap_u64]
  omega
theorem mask_i64 (x : Int) : IntKind.wrap .u32 (bitop .and .i64 x 4294967295) = IntKind.wrap .u32 x := by
  have h : (BitVec.ofInt 64 x &&& BitVec.ofInt 64 4294967295).toNat = (x % 18446744073709551616).toNat % 4294967296 := by
    rw [BitVec.toNat_and, BitVec.toNat_ofInt, BitVec.toNat_ofInt]
    exact Nat.and_two_pow_sub_one_eq_mod _ 32
  change IntKind.wrap .u32 (IntKind.wrap .i64 ((BitVec.ofInt 64 x &&& BitVec.ofInt 64 4294967295).toNat : Int)) = _
  rw [h, IntKind.wrap_u32, IntKind.wrap_u32, IntKind.wrap_i64]
  omega
theorem u32_i64 (x : Int) : IntKind.wrap .u32 (IntKind.wrap .i64 x) = IntKind.wrap .u32 x := by
  rw [IntKind.wrap_u32, IntKind.wrap_u32, IntKind.wrap_i64]; omega
theorem u32_i32 (x : Int) : IntKind.wrap .u32 (IntKind.wrap .i32 x) = IntKind.wrap .u32 x := by
  rw [IntKind.wrap_u32, IntKind.wrap_u32, IntKind.wrap_i32]; omega
theorem i64_i32 (x : Int) : IntKind.wrap .i64 (IntKind.wrap .i32 x) = IntKind.wrap .i32 x := by
  rw [IntKind.wrap_i32, IntKind.wrap_i64]; omega
theorem mul_eq (a b : Int) (s : Bool) : ref1_Mul64 a b s = word_Mul64 a b s := by
  unfold ref1_Mul64 word_Mul64
  rw [mask_u64]
theorem divS_eq {a b : Int} (ha : U32 a) (hb : U32 b) : ref1_DivS a b = word_DivS a b := by
  unfold ref1_DivS word_DivS
  rw [mask_i64, u32_i64, u32_i32, i64_i32, i64_i32]
  unfold U32 at ha hb
  by_cases h0 : b = 0
  · subst h0; rfl
  · have e1 : (b == 0) = false := by simpa using h0
    have e2 : (IntKind.wrap .i32 b == 0) = false := by
      rw [IntKind.wrap_i32]
      simp only [beq_eq_false_iff_ne, ne_eq]
      omega
    rw [e1, e2]
    cases h : IntKind.wrap .i32 a == -2147483648 && IntKind.wrap .i32 b == -1 with
    | false => rfl
    | true =>
      simp only [Bool.and_eq_true, beq_iff_eq] at h
      rw [h.1, h.2]
      have : a = 2147483648 := by
        have := h.1
        rw [IntKind.wrap_i32] at this
        omega
      rw [this]
      rfl
def law1_WordTimes.T2000008 : Tm := ⟨fill 0 91 [(2, Sl.data Ty.bool), (8, Sl.ptr (8 : Nat) (nilOf Step)), (9, Sl.data (Ty.int IntKind.u32)), (10, Sl.data (Ty.int IntKind.u32)), (11, Sl.data (Ty.int IntKind.u32)), (12, Sl.data (Ty.int IntKind.u32)), (32, Sl.data (Ty.sl (Ty.arr (2 : Nat) (Ty.int IntKind.u32)))), (33, Sl.data (Ty.int IntKind.i64)), (34, Sl.data (Ty.int IntKind.i64))], [{ k := (8 : Nat), t := Ty.arr (2 : Nat) (Ty.int IntKind.u32), vir := false }]⟩
def law1_WordTimes.X2000008_normal : Tm := ⟨fill 0 91 [(2, Sl.data Ty.bool), (32, Sl.data (Ty.sl (Ty.arr (2 : Nat) (Ty.int IntKind.u32)))), (33, Sl.data (Ty.int IntKind.i64)), (34, Sl.data (Ty.int IntKind.i64)), (89, Sl.data Ty.bool)], []⟩
def law1_WordTimes.o2000008 {R : Type} (v0 : Bool) (v1 : Int) (v2 : Int) (v3 : Int) (v4 : Int) (v5 : List (List Int)) (v6 : Int) (v7 : Int) (v8 : List Int) (knormal : Bool → (List (List Int)) → Int → Int → Bool → Option R) : Option R :=
  bif v1 != v3 then knormal v0 v5 v6 v7 true else bif v2 != v4 then knormal v0 v5 v6 v7 true else bif word_DivU (List.getD v8 (0 : Nat) (0 : Int)) (List.getD v8 (1 : Nat) (0 : Int)) != ref1_DivU (List.getD v8 (0 : Nat) (0 : Int)) (List.getD v8 (1 : Nat) (0 : Int)) then knormal v0 v5 v6 v7 true else bif ref1_DivS.pre (List.getD v8 (0 : Nat) (0 : Int)) (List.getD v8 (1 : Nat) (0 : Int)) then knormal v0 v5 v6 v7 (word_DivS (List.getD v8 (0 : Nat) (0 : Int)) (List.getD v8 (1 : Nat) (0 : Int)) != ref1_DivS (List.getD v8 (0 : Nat) (0 : Int)) (List.getD v8 (1 : Nat) (0 : Int))) else none
def law1_WordTimes.s2000008 {R : Type} (v0 : Bool) (v1 : Int) (v2 : Int) (v3 : Int) (v4 : Int) (v5 : List (List Int)) (v6 : Int) (v7 : Int) (v8 : List Int) (knormal : Bool → (List (List Int)) → Int → Int → Bool → Option R) : Option R :=
  bif v1 != v3 || (v2 != v4 || (word_DivU (List.getD v8 (0 : Nat) (0 : Int)) (List.getD v8 (1 : Nat) (0 : Int)) != ref1_DivU (List.getD v8 (0 : Nat) (0 : Int)) (List.getD v8 (1 : Nat) (0 : Int)) || ref1_DivS.pre (List.getD v8 (0 : Nat) (0 : Int)) (List.getD v8 (1 : Nat) (0 : Int)))) then knormal v0 v5 v6 v7 (v1 != v3 || (v2 != v4 || (word_DivU (List.getD v8 (0 : Nat) (0 : Int)) (List.getD v8 (1 : Nat) (0 : Int)) != ref1_DivU (List.getD v8 (0 : Nat) (0 : Int)) (List.getD v8 (1 : Nat) (0 : Int)) || word_DivS (List.getD v8 (0 : Nat) (0 : Int)) (List.getD v8 (1 : Nat) (0 : Int)) != ref1_DivS (List.getD v8 (0 : Nat) (0 : Int)) (List.getD v8 (1 : Nat) (0 : Int))))) else none
theorem law1_WordTimes.s2000008_eq {R : Type} (v0 : Bool) (v1 : Int) (v2 : Int) (v3 : Int) (v4 : Int) (v5 : List (List Int)) (v6 : Int) (v7 : Int) (v8 : List Int) (knormal : Bool → (List (List Int)) → Int → Int → Bool → Option R) : law1_WordTimes.s2000008 v0 v1 v2 v3 v4 v5 v6 v7 v8 knormal = law1_WordTimes.o2000008 v0 v1 v2 v3 v4 v5 v6 v7 v8 knormal := by
  unfold law1_WordTimes.s2000008 law1_WordTimes.o2000008
  (cases hc : v1 != v3 with | false => (cases hc : v2 != v4 with | false => (cases hc : word_DivU (List.getD v8 (0 : Nat) (0 : Int)) (List.getD v8 (1 : Nat) (0 : Int)) != ref1_DivU (List.getD v8 (0 : Nat) (0 : Int)) (List.getD v8 (1 : Nat) (0 : Int)) with | false => (cases hc : ref1_DivS.pre (List.getD v8 (0 : Nat) (0 : Int)) (List.getD v8 (1 : Nat) (0 : Int)) with | false => (first | rfl | simp_all) | true => (first | rfl | simp_all)) | true => (first | rfl | simp_all)) | true => (first | rfl | simp_all)) | true => (first | rfl | simp_all))
def law1_WordTimes.T0 : Tm := ⟨fill 0 91 [(2, Sl.data Ty.bool), (32, Sl.data (Ty.sl (Ty.arr (2 : Nat) (Ty.int IntKind.u32)))), (33, Sl.data (Ty.int IntKind.i64)), (34, Sl.data (Ty.int IntKind.i64))], []⟩
def law1_WordTimes.X0_ret : Tm := ⟨fill 0 91 [(6, Sl.data Ty.bool)], []⟩
def law1_WordTimes.X0_exit0 : Tm := ⟨fill 0 91 [], []⟩
def law1_WordTimes.round0 {R : Type} (v0 : Bool) (v1 : List (List Int)) (v2 : Int) (v3 : Int) (next : Bool → (List (List Int)) → Int → Int → Option R) (kret : Bool → Option R) (kexit0 : Option R) : Option R :=
  bif decide (v3 < v2) then bif decide ((0 : Int) ≤ v3) && decide (v3 < ↑(List.length v1)) then bif Prod.fst (word_Mul64 (List.getD (List.getD v1 (Int.toNat v3) (Ty.dflt (Ty.arr (2 : Nat) (Ty.int IntKind.u32)))) (0 : Nat) (0 : Int)) (List.getD (List.getD v1 (Int.toNat v3) (Ty.dflt (Ty.arr (2 : Nat) (Ty.int IntKind.u32)))) (1 : Nat) (0 : Int)) v0) != Prod.fst (ref1_Mul64 (List.getD (List.getD v1 (Int.toNat v3) (Ty.dflt (Ty.arr (2 : Nat) (Ty.int IntKind.u32)))) (0 : Nat) (0 : Int)) (List.getD (List.getD v1 (Int.toNat v3) (Ty.dflt (Ty.arr (2 : Nat) (Ty.int IntKind.u32)))) (1 : Nat) (0 : Int)) v0) || (Prod.snd (word_Mul64 (List.getD (List.getD v1 (Int.toNat v3) (Ty.dflt (Ty.arr (2 : Nat) (Ty.int IntKind.u32)))) (0 : Nat) (0 : Int)) (List.getD (List.getD v1 (Int.toNat v3) (Ty.dflt (Ty.arr (2 : Nat) (Ty.int IntKind.u32)))) (1 : Nat) (0 : Int)) v0) != Prod.snd (ref1_Mul64 (List.getD (List.getD v1 (Int.toNat v3) (Ty.dflt (Ty.arr (2 : Nat) (Ty.int IntKind.u32)))) (0 : Nat) (0 : Int)) (List.getD (List.getD v1 (Int.toNat v3) (Ty.dflt (Ty.arr (2 : Nat) (Ty.int IntKind.u32)))) (1 : Nat) (0 : Int)) v0) || (word_DivU (List.getD (List.getD v1 (Int.toNat v3) (Ty.dflt (Ty.arr (2 : Nat) (Ty.int IntKind.u32)))) (0 : Nat) (0 : Int)) (List.getD (List.getD v1 (Int.toNat v3) (Ty.dflt (Ty.arr (2 : Nat) (Ty.int IntKind.u32)))) (1 : Nat) (0 : Int)) != ref1_DivU (List.getD (List.getD v1 (Int.toNat v3) (Ty.dflt (Ty.arr (2 : Nat) (Ty.int IntKind.u32)))) (0 : Nat) (0 : Int)) (List.getD (List.getD v1 (Int.toNat v3) (Ty.dflt (Ty.arr (2 : Nat) (Ty.int IntKind.u32)))) (1 : Nat) (0 : Int)) || ref1_DivS.pre (List.getD (List.getD v1 (Int.toNat v3) (Ty.dflt (Ty.arr (2 : Nat) (Ty.int IntKind.u32)))) (0 : Nat) (0 : Int)) (List.getD (List.getD v1 (Int.toNat v3) (Ty.dflt (Ty.arr (2 : Nat) (Ty.int IntKind.u32)))) (1 : Nat) (0 : Int)))) then bif Prod.fst (word_Mul64 (List.getD (List.getD v1 (Int.toNat v3) (Ty.dflt (Ty.arr (2 : Nat) (Ty.int IntKind.u32)))) (0 : Nat) (0 : Int)) (List.getD (List.getD v1 (Int.toNat v3) (Ty.dflt (Ty.arr (2 : Nat) (Ty.int IntKind.u32)))) (1 : Nat) (0 : Int)) v0) != Prod.fst (ref1_Mul64 (List.getD (List.getD v1 (Int.toNat v3) (Ty.dflt (Ty.arr (2 : Nat) (Ty.int IntKind.u32)))) (0 : Nat) (0 : Int)) (List.getD (List.getD v1 (Int.toNat v3) (Ty.dflt (Ty.arr (2 : Nat) (Ty.int IntKind.u32)))) (1 : Nat) (0 : Int)) v0) || (Prod.snd (word_Mul64 (List.getD (List.getD v1 (Int.toNat v3) (Ty.dflt (Ty.arr (2 : Nat) (Ty.int IntKind.u32)))) (0 : Nat) (0 : Int)) (List.getD (List.getD v1 (Int.toNat v3) (Ty.dflt (Ty.arr (2 : Nat) (Ty.int IntKind.u32)))) (1 : Nat) (0 : Int)) v0) != Prod.snd (ref1_Mul64 (List.getD (List.getD v1 (Int.toNat v3) (Ty.dflt (Ty.arr (2 : Nat) (Ty.int IntKind.u32)))) (0 : Nat) (0 : Int)) (List.getD (List.getD v1 (Int.toNat v3) (Ty.dflt (Ty.arr (2 : Nat) (Ty.int IntKind.u32)))) (1 : Nat) (0 : Int)) v0) || (word_DivU (List.getD (List.getD v1 (Int.toNat v3) (Ty.dflt (Ty.arr (2 : Nat) (Ty.int IntKind.u32)))) (0 : Nat) (0 : Int)) (List.getD (List.getD v1 (Int.toNat v3) (Ty.dflt (Ty.arr (2 : Nat) (Ty.int IntKind.u32)))) (1 : Nat) (0 : Int)) != ref1_DivU (List.getD (List.getD v1 (Int.toNat v3) (Ty.dflt (Ty.arr (2 : Nat) (Ty.int IntKind.u32)))) (0 : Nat) (0 : Int)) (List.getD (List.getD v1 (Int.toNat v3) (Ty.dflt (Ty.arr (2 : Nat) (Ty.int IntKind.u32)))) (1 : Nat) (0 : Int)) || word_DivS (List.getD (List.getD v1 (Int.toNat v3) (Ty.dflt (Ty.arr (2 : Nat) (Ty.int IntKind.u32)))) (0 : Nat) (0 : Int)) (List.getD (List.getD v1 (Int.toNat v3) (Ty.dflt (Ty.arr (2 : Nat) (Ty.int IntKind.u32)))) (1 : Nat) (0 : Int)) != ref1_DivS (List.getD (List.getD v1 (Int.toNat v3) (Ty.dflt (Ty.arr (2 : Nat) (Ty.int IntKind.u32)))) (0 : Nat) (0 : Int)) (List.getD (List.getD v1 (Int.toNat v3) (Ty.dflt (Ty.arr (2 : Nat) (Ty.int IntKind.u32)))) (1 : Nat) (0 : Int)))) then kret false else next v0 v1 v2 (IntKind.wrap IntKind.i64 (v3 + (1 : Int))) else none else none else kexit0
def law1_WordTimes.R0 {R : Type} (kret : Bool → Option R) (kexit0 : Option R) : (Bool × (List (List Int)) × Int × Int) → ((Bool × (List (List Int)) × Int × Int) → Option R) → Option R := fun (v0, v1, v2, v3) next => law1_WordTimes.round0 v0 v1 v2 v3 (fun w0 w1 w2 w3 => next (w0, w1, w2, w3)) kret kexit0
theorem law1_WordTimes.R0_eq {R : Type} (kret : Bool → Option R) (kexit0 : Option R) (v0 : Bool) (v1 : List (List Int)) (v2 : Int) (v3 : Int) (next : (Bool × (List (List Int)) × Int × Int) → Option R) : law1_WordTimes.R0 kret kexit0 (v0, v1, v2, v3) next = law1_WordTimes.round0 v0 v1 v2 v3 (fun w0 w1 w2 w3 => next (w0, w1, w2, w3)) kret kexit0 := rfl
def law1_WordTimes.loop0 {R : Type} (v0 : Bool) (v1 : List (List Int)) (v2 : Int) (v3 : Int) (kret : Bool → Option R) (kexit0 : Option R) : Option R :=
  open Classical in
  if v2 = v1.length ∧ v2 < 4611686018427387904 ∧ 0 ≤ v3 ∧ v3 ≤ v2 ∧ (∀ x ∈ v1, U32 (List.getD x 0 0) ∧ U32 (List.getD x 1 0)) then kexit0 else none
theorem law1_WordTimes.loop0_ok {R : Type} (v0 : Bool) (v1 : List (List Int)) (v2 : Int) (v3 : Int) (kret : Bool → Option R) (kexit0 : Option R) (r : R) (h : law1_WordTimes.loop0 v0 v1 v2 v3 kret kexit0 = some r) : ∃ n, lp (law1_WordTimes.R0 kret kexit0) n (v0, v1, v2, v3) = some r := by
  unfold law1_WordTimes.loop0 at h
  split at h <;> try (cases h; done)
  rename_i hc
  obtain ⟨h1, h2, h3, h4, h5⟩ := hc
  rw [← h]
  refine lp_pass (fun i => (v0, v1, v2, i)) (n := v2) ?_ ?_ v3 h3 h4
  · intro i i0 i1 next
    obtain ⟨x, hx, hd⟩ := getD_at (d := Ty.dflt (Ty.arr 2 (Ty.int IntKind.u32))) i0 (h1 ▸ i1)
    obtain ⟨u1, u2⟩ := h5 x (by
      have : x ∈ v1.drop i.toNat := by rw [hd]; simp
      exact List.mem_of_mem_drop this)
    have hp : ref1_DivS.pre (List.getD x 0 0) (List.getD x 1 0) = true := decide_eq_true u2
    rw [law1_WordTimes.R0_eq, law1_WordTimes.round0, decide_eq_true i1, decide_eq_true i0, decide_eq_true (h1 ▸ i1 : i < (v1.length : Int)), hx, mul_eq, divS_eq u1 u2, hp, show ref1_DivU (List.getD x 0 0) (List.getD x 1 0) = word_DivU (List.getD x 0 0) (List.getD x 1 0) from rfl, wrap_next i0 i1 h2]
    simp
  · intro next
    rw [law1_WordTimes.R0_eq, law1_WordTimes.round0, decide_eq_false (Int.lt_irrefl _)]
    rfl
def law1_WordTimes.C : Cfg := { rows := [], keep := [(0, [2, 32, 33, 34], []), (1000000, [6], []), (2000008, [2, 8, 9, 10, 11, 12, 32, 33, 34], [8]), (12000008, [2, 32, 33, 34, 89], [])], adopt := [] }
def law1_WordTimes.sum2000008 : FrV law1_WordTimes.T2000008.fr × StV law1_WordTimes.T2000008.st → (Ex → S → Option (List DVal)) → Option (List DVal) := fun ((v0, v1, v2, v3, v4, v5, v6, v7, ()), (v8, ())) K => law1_WordTimes.s2000008 v0 v1 v2 v3 v4 v5 v6 v7 v8 (fun e0 e1 e2 e3 e4 => K .normal (pack law1_WordTimes.X2000008_normal ((e0, e1, e2, e3, e4, ()), (()))))
def law1_WordTimes.sum0 : FrV law1_WordTimes.T0.fr × StV law1_WordTimes.T0.st → (Ex → S → Option (List DVal)) → Option (List DVal) := fun ((v0, v1, v2, v3, ()), (())) K => law1_WordTimes.loop0 v0 v1 v2 v3 (fun e0 => K .ret (pack law1_WordTimes.X0_ret ((e0, ()), (())))) (K (.exit 0) (pack law1_WordTimes.X0_exit0 ((), ())))
def law1_WordTimes.rnd0 : FrV law1_WordTimes.T0.fr × StV law1_WordTimes.T0.st → (FrV law1_WordTimes.T0.fr × StV law1_WordTimes.T0.st → Option (List DVal)) → (Ex → S → Option (List DVal)) → Option (List DVal) := fun ((v0, v1, v2, v3, ()), (())) next K => law1_WordTimes.round0 v0 v1 v2 v3 (fun w0 w1 w2 w3 => next ((w0, w1, w2, w3, ()), (()))) (fun e0 => K .ret (pack law1_WordTimes.X0_ret ((e0, ()), (())))) (K (.exit 0) (pack law1_WordTimes.X0_exit0 ((), ())))
def law1_WordTimes.L : Nat → Option Sum := fun i => if i = 0 then some (sumOf law1_WordTimes.T0 law1_WordTimes.sum0) else if i = 2000008 then some (sumOf law1_WordTimes.T2000008 law1_WordTimes.sum2000008) else none
theorem law1_WordTimes.rnd0_eq : ∀ v (r : S → Option (List DVal)) (K : Ex → S → Option (List DVal)), exec Try.prog law1_WordTimes.C law1_WordTimes.env law1_WordTimes.L 0 (loopOf Try.f10 0) (pack law1_WordTimes.T0 v) (fun e s' => match e with | .normal => r (trim law1_WordTimes.C 0 s') | e => K e (trim law1_WordTimes.C (0 + 1000000) s')) = law1_WordTimes.rnd0 v (fun v' => r (pack law1_WordTimes.T0 v')) K :=
  fun ((v0, v1, v2, v3, ()), (())) r K => by kernel_rfl
theorem law1_WordTimes.lp0 (K : Ex → S → Option (List DVal)) : ∀ (n : Nat) (v0 : Bool) (v1 : List (List Int)) (v2 : Int) (v3 : Int), lp (fun v next => law1_WordTimes.rnd0 v next K) n ((v0, v1, v2, v3, ()), (())) = lp (law1_WordTimes.R0 (fun e0 => K .ret (pack law1_WordTimes.X0_ret ((e0, ()), (())))) (K (.exit 0) (pack law1_WordTimes.X0_exit0 ((), ())))) n (v0, v1, v2, v3) := by
  intro n
  induction n with
  | zero => intros; rfl
  | succ n ih =>
    intro v0 v1 v2 v3
    show law1_WordTimes.round0 v0 v1 v2 v3 (fun w0 w1 w2 w3 => lp (fun v next => law1_WordTimes.rnd0 v next K) n ((w0, w1, w2, w3, ()), (()))) (fun e0 => K .ret (pack law1_WordTimes.X0_ret ((e0, ()), (())))) (K (.exit 0) (pack law1_WordTimes.X0_exit0 ((), ()))) = law1_WordTimes.round0 v0 v1 v2 v3 (fun w0 w1 w2 w3 => lp (law1_WordTimes.R0 (fun e0 => K .ret (pack law1_WordTimes.X0_ret ((e0, ()), (())))) (K (.exit 0) (pack law1_WordTimes.X0_exit0 ((), ())))) n (w0, w1, w2, w3)) (fun e0 => K .ret (pack law1_WordTimes.X0_ret ((e0, ()), (())))) (K (.exit 0) (pack law1_WordTimes.X0_exit0 ((), ())))
    simp only [ih]
theorem law1_WordTimes.sum0_ok : SumOk Try.prog law1_WordTimes.C law1_WordTimes.env law1_WordTimes.L 0 (loopOf Try.f10 0) := sumOk_lp (T := law1_WordTimes.T0) (rnd := law1_WordTimes.rnd0) (f := law1_WordTimes.sum0) rfl law1_WordTimes.rnd0_eq fun ((v0, v1, v2, v3, ()), (())) K r h => by
  obtain ⟨n, hn⟩ := law1_WordTimes.loop0_ok v0 v1 v2 v3 (fun e0 => K .ret (pack law1_WordTimes.X0_ret ((e0, ()), (())))) (K (.exit 0) (pack law1_WordTimes.X0_exit0 ((), ()))) r h
  exact ⟨n, by rw [law1_WordTimes.lp0]; exact hn⟩
theorem law1_WordTimes.x2000008 : ∀ v (K : Ex → S → Option (List DVal)), exec1 Try.prog law1_WordTimes.C law1_WordTimes.env law1_WordTimes.L (spotOf Try.f10 2000008).2.1 (spotOf Try.f10 2000008).2.2 (pack law1_WordTimes.T2000008 v) (fun e s' => K e (trim law1_WordTimes.C (2000008 + 10000000) s')) = (fun (((v0, v1, v2, v3, v4, v5, v6, v7, ()), (v8, ())) : FrV law1_WordTimes.T2000008.fr × StV law1_WordTimes.T2000008.st) => law1_WordTimes.o2000008 v0 v1 v2 v3 v4 v5 v6 v7 v8 (fun e0 e1 e2 e3 e4 => K .normal (pack law1_WordTimes.X2000008_normal ((e0, e1, e2, e3, e4, ()), (()))))) v :=
  fun ((v0, v1, v2, v3, v4, v5, v6, v7, ()), (v8, ())) K => by kernel_rfl
theorem law1_WordTimes.sum2000008_ok : SpotOk Try.prog law1_WordTimes.C law1_WordTimes.env law1_WordTimes.L (spotOf Try.f10 2000008) := spotOk_of (T := law1_WordTimes.T2000008) (q := 2000008) (f := law1_WordTimes.sum2000008) (by kernel_rfl) (by kernel_rfl) fun ((v0, v1, v2, v3, v4, v5, v6, v7, ()), (v8, ())) K r h => (law1_WordTimes.x2000008 _ K).trans ((law1_WordTimes.s2000008_eq v0 v1 v2 v3 v4 v5 v6 v7 v8 (fun e0 e1 e2 e3 e4 => K .normal (pack law1_WordTimes.X2000008_normal ((e0, e1, e2, e3, e4, ()), (()))))).symm.trans h)
def law1_WordTimes.tree {R : Type} (a0 : Int) (a1 : Int) (a2 : Bool) (ret : Bool → Option R) : Option R :=
  law1_WordTimes.loop0 a2 [[a0, a1], [a0, bitop BinOp.and IntKind.u32 a1 (15 : Int)], [a0, (4294967295 : Int)], [(2147483648 : Int), a1], [a0, (0 : Int)], [shr IntKind.u32 a0 (16 : Int), a1]] (6 : Int) (0 : Int) (fun e0 => ret e0) (ret true)
theorem law1_WordTimes.eq (a0 : Int) (a1 : Int) (a2 : Bool) : body Try.prog law1_WordTimes.C law1_WordTimes.env law1_WordTimes.L Try.f10 [⟨Ty.int IntKind.u32, a0⟩, ⟨Ty.int IntKind.u32, a1⟩, ⟨Ty.bool, a2⟩] = law1_WordTimes.tree a0 a1 a2 (fun r0 => some ([⟨Ty.bool, r0⟩] : List DVal)) := by kernel_rfl
def law1_WordTimes.pre (a b : Int) (s : Bool) : Bool := decide (0 ≤ a ∧ a < 4294967296) && decide (0 ≤ b ∧ b < 4294967296)
def law1_WordTimes (a b : Int) (s : Bool) : Bool := true
theorem law1_WordTimes.nice {R : Type} (a b : Int) (s : Bool) (hp : law1_WordTimes.pre a b s = true) (ret : Bool → Option R) : law1_WordTimes.tree a b s ret = ret (law1_WordTimes a b s) := by
  unfold law1_WordTimes.pre at hp
  simp only [Bool.and_eq_true, decide_eq_true_eq] at hp
  obtain ⟨ha, hb⟩ := hp
  have h15 : 0 ≤ bitop .and .u32 b 15 ∧ bitop .and .u32 b 15 ≤ 15 := bitop_and_small (k := .u32) (.inr (.inl rfl)) b 15 (by omega)
  unfold law1_WordTimes.tree law1_WordTimes.loop0
  rw [if_pos ⟨rfl, by decide, by decide, by decide, fun x hx => by
    simp only [List.mem_cons, List.not_mem_nil, or_false] at hx
    rcases hx with rfl | rfl | rfl | rfl | rfl | rfl
    · exact ⟨ha, hb⟩
    · exact ⟨ha, h15.1, Int.lt_of_le_of_lt h15.2 (by decide)⟩
    · exact ⟨ha, (by decide : (0 : Int) ≤ 4294967295), (by decide : (4294967295 : Int) < 4294967296)⟩
    · exact ⟨⟨(by decide : (0 : Int) ≤ 2147483648), (by decide : (2147483648 : Int) < 4294967296)⟩, hb⟩
    · exact ⟨ha, (by decide : (0 : Int) ≤ 0), (by decide : (0 : Int) < 4294967296)⟩
    · refine ⟨?_, hb⟩
      show U32 (shr .u32 a 16)
      rw [shr_u32_16]
      unfold U32
      omega⟩]
  rfl

def law1_WordTimes.ctr : Ctr := ctrOf [Ty.int IntKind.u32, Ty.int IntKind.u32, Ty.bool] fun x => .guard (law1_WordTimes.pre (x.1) (x.2.1) (x.2.2.1)) (.ret [⟨Ty.bool, law1_WordTimes (x.1) (x.2.1) (x.2.2.1)⟩])
theorem law1_WordTimes.known : Known Try.prog 10 law1_WordTimes.ctr :=
  known_plain law1_WordTimes.envOk mixed Try.func10 (by kernel_rfl) (by kernel_rfl) (byId (by kernel_rfl : loopIds Try.f10 = [0]) (by intro q hq; simp only [List.mem_cons, List.not_mem_nil, or_false] at hq; subst hq; first | exact law1_WordTimes.sum0_ok)) (bySpot (ids := [2000008]) (by kernel_rfl) (by intro q hq; simp only [List.mem_cons, List.not_mem_nil, or_false] at hq; subst hq; first | exact law1_WordTimes.sum2000008_ok)) fun x rs h => by
    obtain ⟨a0, a1, a2, u⟩ := x
    cases u
    simp only [Cmd.val_guard, Cmd.val_ret] at h
    split at h <;> try (cases h; done)
    rename_i hp
    exact (law1_WordTimes.eq a0 a1 a2).trans ((law1_WordTimes.nice a0 a1 a2 hp (fun r0 => some ([⟨Ty.bool, r0⟩] : List DVal))).trans h)
end
end Go.D.Ytbcjiicaekfjlaa
