import Derived.Test.YtbcjiicaekfjlaaChecked
import Derived.Test.YtbcjiicaekfjlaaDX
import Derived.KernelRfl
import Derived.Test.YtbcjiicaekfjlaaLturns1
import Derived.Test.YtbcjiicaekfjlaaLshifts1
import Derived.Test.YtbcjiicaekfjlaaLadds1
namespace Go.D.Ytbcjiicaekfjlaa
open Go.Proofs
set_option linter.unusedVariables false
set_option linter.unusedSimpArgs false
set_option maxRecDepth 100000
noncomputable section


/-! ### law1_WordBack -/
def law1_WordBack.env : Env := envCons 25 law1_known.ctr <| envCons 28 word_AddCarry.ctr <| envCons 26 word_Shift.ctr <| envCons 48 word_Mul64.ctr <| envCons 50 word_DivU.ctr <| envCons 32 word_Compress.ctr <| envCons 30 word_Expand.ctr <| envCons 38 word_Rev.ctr <| envCons 36 word_Rbit.ctr <| envCons 40 word_Rev16.ctr <| envNil
theorem law1_WordBack.envOk : EnvOk Try.prog law1_WordBack.env := envOk_cons law1_known.known (envOk_cons word_AddCarry.known (envOk_cons word_Shift.known (envOk_cons word_Mul64.known (envOk_cons word_DivU.known (envOk_cons word_Compress.known (envOk_cons word_Expand.known (envOk_cons word_Rev.known (envOk_cons word_Rbit.known (envOk_cons word_Rev16.known (envOk_nil _))))))))))
def law1_WordBack.T2000014 : Tm := ⟨fill 0 197 [(0, Sl.data (Ty.int IntKind.u32)), (1, Sl.data (Ty.int IntKind.u32)), (7, Sl.data (Ty.int IntKind.u32)), (10, Sl.data (Ty.int IntKind.u32)), (11, Sl.data Ty.bool), (14, Sl.data Ty.bool), (19, Sl.data (Ty.int IntKind.u32)), (21, Sl.data (Ty.int IntKind.u32)), (22, Sl.data (Ty.int IntKind.u32)), (23, Sl.data (Ty.int IntKind.u32)), (24, Sl.data (Ty.int IntKind.u32)), (25, Sl.data (Ty.int IntKind.u32)), (27, Sl.data Ty.bool), (28, Sl.data (Ty.int IntKind.u32))], []⟩
def law1_WordBack.X2000014_normal : Tm := ⟨fill 0 197 [(6, Sl.data Ty.bool)], []⟩
def law1_WordBack.o2000014 {R : Type} (v0 : Int) (v1 : Int) (v2 : Int) (v3 : Int) (v4 : Bool) (v5 : Bool) (v6 : Int) (v7 : Int) (v8 : Int) (v9 : Int) (v10 : Int) (v11 : Int) (v12 : Bool) (v13 : Int) (knormal : Bool → Option R) : Option R :=
  bif v3 == v0 then bif eqD Ty.bool v4 (decide (v2 ≥ v1)) then bif eqD Ty.bool v5 (decide (v0 ≥ v1)) then bif v6 == v0 then bif word_Rev (word_Rev v0) == v0 then bif word_Rbit (word_Rbit v0) == v0 then bif word_Rev16 (word_Rev16 v0) == v0 then bif word_Rev (word_Rbit v0) == word_Rbit (word_Rev v0) then bif v7 == v9 then bif v8 == v10 then bif v7 == IntKind.wrap IntKind.u32 (v0 * v1) then bif v1 == (0 : Int) then bif !v12 then knormal true else knormal (v13 == v0) else bif decide (IntKind.wrap IntKind.u32 (v11 * v1) ≤ v0) then bif decide (IntKind.wrap IntKind.u32 (v0 - IntKind.wrap IntKind.u32 (v11 * v1)) < v1) then bif !v12 then knormal true else knormal (v13 == v0) else knormal false else knormal false else knormal false else knormal false else knormal false else knormal false else knormal false else knormal false else knormal false else knormal false else knormal false else knormal false else knormal false
def law1_WordBack.s2000014 {R : Type} (v0 : Int) (v1 : Int) (v2 : Int) (v3 : Int) (v4 : Bool) (v5 : Bool) (v6 : Int) (v7 : Int) (v8 : Int) (v9 : Int) (v10 : Int) (v11 : Int) (v12 : Bool) (v13 : Int) (knormal : Bool → Option R) : Option R :=
  knormal (v3 == v0 && (eqD Ty.bool v4 (decide (v2 ≥ v1)) && (eqD Ty.bool v5 (decide (v0 ≥ v1)) && (v6 == v0 && (word_Rev (word_Rev v0) == v0 && (word_Rbit (word_Rbit v0) == v0 && (word_Rev16 (word_Rev16 v0) == v0 && (word_Rev (word_Rbit v0) == word_Rbit (word_Rev v0) && (v7 == v9 && (v8 == v10 && (v7 == IntKind.wrap IntKind.u32 (v0 * v1) && bif v1 == (0 : Int) then !v12 || v13 == v0 else decide (IntKind.wrap IntKind.u32 (v11 * v1) ≤ v0) && (decide (IntKind.wrap IntKind.u32 (v0 - IntKind.wrap IntKind.u32 (v11 * v1)) < v1) && (!v12 || v13 == v0)))))))))))))
theorem law1_WordBack.s2000014_eq {R : Type} (v0 : Int) (v1 : Int) (v2 : Int) (v3 : Int) (v4 : Bool) (v5 : Bool) (v6 : Int) (v7 : Int) (v8 : Int) (v9 : Int) (v10 : Int) (v11 : Int) (v12 : Bool) (v13 : Int) (knormal : Bool → Option R) : law1_WordBack.s2000014 v0 v1 v2 v3 v4 v5 v6 v7 v8 v9 v10 v11 v12 v13 knormal = law1_WordBack.o2000014 v0 v1 v2 v3 v4 v5 v6 v7 v8 v9 v10 v11 v12 v13 knormal := by
  unfold law1_WordBack.s2000014 law1_WordBack.o2000014
  (cases hc : v3 == v0 with | false => (first | rfl | simp_all) | true => (cases hc : eqD Ty.bool v4 (decide (v2 ≥ v1)) with | false => (first | rfl | simp_all) | true => (cases hc : eqD Ty.bool v5 (decide (v0 ≥ v1)) with | false => (first | rfl | simp_all) | true => (cases hc : v6 == v0 with | false => (first | rfl | simp_all) | true => (cases hc : word_Rev (word_Rev v0) == v0 with | false => (first | rfl | simp_all) | true => (cases hc : word_Rbit (word_Rbit v0) == v0 with | false => (first | rfl | simp_all) | true => (cases hc : word_Rev16 (word_Rev16 v0) == v0 with | false => (first | rfl | simp_all) | true => (cases hc : word_Rev (word_Rbit v0) == word_Rbit (word_Rev v0) with | false => (first | rfl | simp_all) | true => (cases hc : v7 == v9 with | false => (first | rfl | simp_all) | true => (cases hc : v8 == v10 with | false => (first | rfl | simp_all) | true => (cases hc : v7 == IntKind.wrap IntKind.u32 (v0 * v1) with | false => (first | rfl | simp_all) | true => (cases hc : v1 == (0 : Int) with | false => (cases hc : decide (IntKind.wrap IntKind.u32 (v11 * v1) ≤ v0) with | false => (first | rfl | simp_all) | true => (cases hc : decide (IntKind.wrap IntKind.u32 (v0 - IntKind.wrap IntKind.u32 (v11 * v1)) < v1) with | false => (first | rfl | simp_all) | true => (cases hc : !v12 with | false => (first | rfl | simp_all) | true => (first | rfl | simp_all)))) | true => (cases hc : !v12 with | false => (first | rfl | simp_all) | true => (first | rfl | simp_all))))))))))))))
def law1_WordBack.C : Cfg := { rows := [], keep := [(2000014, [0, 1, 7, 10, 11, 14, 19, 21, 22, 23, 24, 25, 27, 28], []), (12000014, [6], [])], adopt := [] }
def law1_WordBack.sum2000014 : FrV law1_WordBack.T2000014.fr × StV law1_WordBack.T2000014.st → (Ex → S → Option (List DVal)) → Option (List DVal) := fun ((v0, v1, v2, v3, v4, v5, v6, v7, v8, v9, v10, v11, v12, v13, ()), (())) K => law1_WordBack.s2000014 v0 v1 v2 v3 v4 v5 v6 v7 v8 v9 v10 v11 v12 v13 (fun e0 => K .normal (pack law1_WordBack.X2000014_normal ((e0, ()), (()))))
def law1_WordBack.L : Nat → Option Sum := fun i => if i = 2000014 then some (sumOf law1_WordBack.T2000014 law1_WordBack.sum2000014) else none
theorem law1_WordBack.x2000014 : ∀ v (K : Ex → S → Option (List DVal)), exec1 Try.prog law1_WordBack.C law1_WordBack.env law1_WordBack.L (spotOf Try.f11 2000014).2.1 (spotOf Try.f11 2000014).2.2 (pack law1_WordBack.T2000014 v) (fun e s' => K e (trim law1_WordBack.C (2000014 + 10000000) s')) = (fun (((v0, v1, v2, v3, v4, v5, v6, v7, v8, v9, v10, v11, v12, v13, ()), (())) : FrV law1_WordBack.T2000014.fr × StV law1_WordBack.T2000014.st) => law1_WordBack.o2000014 v0 v1 v2 v3 v4 v5 v6 v7 v8 v9 v10 v11 v12 v13 (fun e0 => K .normal (pack law1_WordBack.X2000014_normal ((e0, ()), (()))))) v :=
  fun ((v0, v1, v2, v3, v4, v5, v6, v7, v8, v9, v10, v11, v12, v13, ()), (())) K => by kernel_rfl
theorem law1_WordBack.sum2000014_ok : SpotOk Try.prog law1_WordBack.C law1_WordBack.env law1_WordBack.L (spotOf Try.f11 2000014) := spotOk_of (T := law1_WordBack.T2000014) (q := 2000014) (f := law1_WordBack.sum2000014) (by kernel_rfl) (by kernel_rfl) fun ((v0, v1, v2, v3, v4, v5, v6, v7, v8, v9, v10, v11, v12, v13, ()), (())) K r h => (law1_WordBack.x2000014 _ K).trans ((law1_WordBack.s2000014_eq v0 v1 v2 v3 v4 v5 v6 v7 v8 v9 v10 v11 v12 v13 (fun e0 => K .normal (pack law1_WordBack.X2000014_normal ((e0, ()), (()))))).symm.trans h)
def law1_WordBack.tree {R : Type} (a0 : Int) (a1 : Int) (a2 : Int) (ret : Bool → Option R) : Option R :=
  bif word_Shift.pre a0 (4 : Int) (IntKind.wrap IntKind.i64 (IntKind.wrap IntKind.i64 (Int.tmod a2 (31 : Int)) + (1 : Int))) false then bif word_Shift.pre (Prod.fst (word_Shift a0 (4 : Int) (IntKind.wrap IntKind.i64 (IntKind.wrap IntKind.i64 (Int.tmod a2 (31 : Int)) + (1 : Int))) false)) (4 : Int) (IntKind.wrap IntKind.i64 ((32 : Int) - IntKind.wrap IntKind.i64 (IntKind.wrap IntKind.i64 (Int.tmod a2 (31 : Int)) + (1 : Int)))) false then bif word_Compress.pre a0 then bif word_Expand.pre (Prod.fst (word_Compress a0)) false then ret (Prod.fst (word_AddCarry (Prod.fst (word_AddCarry a0 a1 false)) (bitop BinOp.xor IntKind.u32 (4294967295 : Int) a1) true) == a0 && (eqD Ty.bool (Prod.fst (Prod.snd (word_AddCarry (Prod.fst (word_AddCarry a0 a1 false)) (bitop BinOp.xor IntKind.u32 (4294967295 : Int) a1) true))) (decide (Prod.fst (word_AddCarry a0 a1 false) ≥ a1)) && (eqD Ty.bool (Prod.fst (Prod.snd (word_AddCarry a0 (bitop BinOp.xor IntKind.u32 (4294967295 : Int) a1) true))) (decide (a0 ≥ a1)) && (Prod.fst (word_Shift (Prod.fst (word_Shift a0 (4 : Int) (IntKind.wrap IntKind.i64 (IntKind.wrap IntKind.i64 (Int.tmod a2 (31 : Int)) + (1 : Int))) false)) (4 : Int) (IntKind.wrap IntKind.i64 ((32 : Int) - IntKind.wrap IntKind.i64 (IntKind.wrap IntKind.i64 (Int.tmod a2 (31 : Int)) + (1 : Int)))) false) == a0 && (word_Rev (word_Rev a0) == a0 && (word_Rbit (word_Rbit a0) == a0 && (word_Rev16 (word_Rev16 a0) == a0 && (word_Rev (word_Rbit a0) == word_Rbit (word_Rev a0) && (Prod.fst (word_Mul64 a0 a1 false) == Prod.fst (word_Mul64 a1 a0 false) && (Prod.snd (word_Mul64 a0 a1 false) == Prod.snd (word_Mul64 a1 a0 false) && (Prod.fst (word_Mul64 a0 a1 false) == IntKind.wrap IntKind.u32 (a0 * a1) && bif a1 == (0 : Int) then !Prod.snd (word_Compress a0) || Prod.fst (word_Expand (Prod.fst (word_Compress a0)) false) == a0 else decide (IntKind.wrap IntKind.u32 (word_DivU a0 a1 * a1) ≤ a0) && (decide (IntKind.wrap IntKind.u32 (a0 - IntKind.wrap IntKind.u32 (word_DivU a0 a1 * a1)) < a1) && (!Prod.snd (word_Compress a0) || Prod.fst (word_Expand (Prod.fst (word_Compress a0)) false) == a0))))))))))))) else none else none else none else none
theorem law1_WordBack.eq (a0 : Int) (a1 : Int) (a2 : Int) : body Try.prog law1_WordBack.C law1_WordBack.env law1_WordBack.L Try.f11 [⟨Ty.int IntKind.u32, a0⟩, ⟨Ty.int IntKind.u32, a1⟩, ⟨Ty.int IntKind.u8, a2⟩] = law1_WordBack.tree a0 a1 a2 (fun r0 => some ([⟨Ty.bool, r0⟩] : List DVal)) := by kernel_rfl
theorem bb (b : Bool) : eqD Ty.bool b b = true := by cases b <;> rfl
theorem addc_sum {a b : Int} (ha : U32 a) (hb : U32 b) (c : Bool) : (word_AddCarry a b c).1 = (a + b + (bif c then 1 else 0)) % 4294967296 ∧ (word_AddCarry a b c).2.1 = decide (a + b + (bif c then 1 else 0) ≥ 4294967296) := by
  have e64 : ∀ x : Int, 0 ≤ x → x < 18446744073709551616 → IntKind.wrap .u64 x = x := fun x h0 h1 => by rw [IntKind.wrap_u64]; omega
  have ba := ha
  have bb := hb
  unfold U32 at ba bb
  have hC : 0 ≤ (bif c then (1 : Int) else 0) ∧ (bif c then (1 : Int) else 0) ≤ 1 := by cases c <;> decide
  unfold word_AddCarry bits_Add32
  dsimp only
  generalize (bif c then (1 : Int) else 0) = C at hC
  rw [e64 a (by omega) (by omega), e64 b (by omega) (by omega), e64 (a + b) (by omega) (by omega), e64 C (by omega) (by omega), e64 (a + b + C) (by omega) (by omega), shr64, IntKind.wrap_u32, IntKind.wrap_u32]
  refine ⟨rfl, ?_⟩
  by_cases h : a + b + C ≥ 4294967296
  · rw [decide_eq_true h, beq_iff_eq]
    omega
  · rw [decide_eq_false h, beq_eq_false_iff_ne]
    omega
theorem not_bv {b : Int} (hb : U32 b) : bitop .xor .u32 4294967295 b = 4294967295 - b := by
  obtain ⟨x, rfl⟩ := bv_of hb.1 hb.2
  have h : BitVec.ofInt 32 4294967295 ^^^ x = ~~~x := by
    rw [show BitVec.ofInt 32 4294967295 = BitVec.allOnes 32 from rfl, BitVec.allOnes_xor]
  have := x.isLt
  rw [xor_bv, ofInt_bv, h, BitVec.toNat_not]
  omega
theorem back_turn {a k : Int} (ha : U32 a) (h0 : 1 ≤ k) (h1 : k ≤ 31) : (word_Shift (word_Shift a 4 k false).1 4 (32 - k) false).1 = a := by
  obtain ⟨b, rfl⟩ := bv_of ha.1 ha.2
  rw [shift_sh32 b false (.inr (.inr (.inr rfl)))]
  dsimp only
  rw [shift_sh32 _ false (.inr (.inr (.inr rfl))), shN_id (by omega) (by omega), shN_id (by omega) (by omega)]
  dsimp only
  congr 2
  apply BitVec.eq_of_getLsbD_eq
  intro i hi
  rw [(sh32_4 _ false _).1 i hi, (sh32_4 b false _).1 _ (by omega)]
  congr 1
  omega
theorem rev_rev {a : Int} (ha : U32 a) : word_Rev (word_Rev a) = a := by
  obtain ⟨b, rfl⟩ := bv_of ha.1 ha.2
  obtain ⟨r, e, h⟩ := rev_bits b
  obtain ⟨s, f, g⟩ := rev_bits r
  rw [e, f]
  congr 2
  apply BitVec.eq_of_getLsbD_eq
  intro i hi
  have k : ∀ i, i < 32 → rv i < 32 ∧ rv (rv i) = i := by decide
  rw [g i hi, h _ (k i hi).1, (k i hi).2]
theorem rev16_rev16 {a : Int} (ha : U32 a) : word_Rev16 (word_Rev16 a) = a := by
  obtain ⟨b, rfl⟩ := bv_of ha.1 ha.2
  obtain ⟨r, e, h⟩ := rev16_bits b
  obtain ⟨s, f, g⟩ := rev16_bits r
  rw [e, f]
  congr 2
  apply BitVec.eq_of_getLsbD_eq
  intro i hi
  have k : ∀ i, i < 32 → sw 8 i < 32 ∧ sw 8 (sw 8 i) = i := by decide
  rw [g i hi, h _ (k i hi).1, (k i hi).2]
theorem rbit_rbit {a : Int} (ha : U32 a) : word_Rbit (word_Rbit a) = a := by
  obtain ⟨b, rfl⟩ := bv_of ha.1 ha.2
  obtain ⟨r, e, h⟩ := rbit_bits b
  obtain ⟨s, f, g⟩ := rbit_bits r
  rw [e, f]
  congr 2
  apply BitVec.eq_of_getLsbD_eq
  intro i hi
  rw [g i hi, h _ (by omega), show 31 - (31 - i) = i by omega]
theorem rev_rbit {a : Int} (ha : U32 a) : word_Rev (word_Rbit a) = word_Rbit (word_Rev a) := by
  obtain ⟨b, rfl⟩ := bv_of ha.1 ha.2
  obtain ⟨r, e, h⟩ := rbit_bits b
  obtain ⟨s, f, g⟩ := rev_bits r
  obtain ⟨r', e', h'⟩ := rev_bits b
  obtain ⟨s', f', g'⟩ := rbit_bits r'
  rw [e, f, e', f']
  congr 2
  apply BitVec.eq_of_getLsbD_eq
  intro i hi
  have k : ∀ i, i < 32 → rv i < 32 ∧ 31 - rv i = rv (31 - i) := by decide
  rw [g i hi, h _ (k i hi).1, g' i hi, h' _ (by omega), (k i hi).2]
theorem mul_comm64 (a b : Int) : word_Mul64 a b false = word_Mul64 b a false := by
  unfold word_Mul64
  simp only [cond_false, cond_true]
  rw [Int.mul_comm (IntKind.wrap .u64 a)]
theorem mul_low {a b : Int} (ha : U32 a) (hb : U32 b) : (word_Mul64 a b false).1 = IntKind.wrap .u32 (a * b) := by
  have e64 : ∀ x : Int, 0 ≤ x → x < 18446744073709551616 → IntKind.wrap .u64 x = x := fun x h0 h1 => by rw [IntKind.wrap_u64]; omega
  unfold U32 at ha hb
  unfold word_Mul64
  simp only [cond_false, cond_true]
  rw [e64 a (by omega) (by omega), e64 b (by omega) (by omega), IntKind.wrap_u32, IntKind.wrap_u32, IntKind.wrap_u64]
  generalize a * b = m
  omega
theorem comp_sound (v : Int) : ∀ (n : Nat) (i j : Int), comp_from v n i = some j → (word_Expand j false).1 = v
  | 0, i, j, h => by cases h
  | n + 1, i, j, h => by
    rw [comp_from] at h
    cases hc : (word_Expand i false).2.2 && (word_Expand i false).1 == v with
    | true =>
      rw [hc] at h
      simp only [cond_true, Option.some.injEq] at h
      subst h
      rw [Bool.and_eq_true, beq_iff_eq] at hc
      exact hc.2
    | false =>
      rw [hc] at h
      exact comp_sound v n _ _ h
theorem told_again (a : Int) : (!(word_Compress a).2 || (word_Expand (word_Compress a).1 false).1 == a) = true := by
  unfold word_Compress
  cases h : comp_from a 4096 0 with
  | none => rfl
  | some j =>
    show (false || (word_Expand j false).1 == a) = true
    rw [comp_sound _ _ _ _ h, beq_self_eq_true]
    rfl
theorem div_back {a b : Int} (ha : U32 a) (hb : U32 b) (h : b ≠ 0) : IntKind.wrap .u32 (word_DivU a b * b) ≤ a ∧ IntKind.wrap .u32 (a - IntKind.wrap .u32 (word_DivU a b * b)) < b := by
  unfold U32 at ha hb
  have e0 : (b == 0) = false := by simpa using h
  have q0 : 0 ≤ a / b := Int.ediv_nonneg ha.1 (by omega)
  have q1 : a / b ≤ a := Int.ediv_le_self b ha.1
  have hm := Int.mul_ediv_add_emod a b
  have r0 := Int.emod_nonneg a h
  have r1 := Int.emod_lt_of_pos a (by omega : 0 < b)
  have hw : word_DivU a b = a / b := by
    unfold word_DivU
    rw [e0]
    simp only [cond_false]
    rw [Int.tdiv_eq_ediv_of_nonneg ha.1, IntKind.wrap_u32]
    omega
  rw [hw, Int.mul_comm]
  have p0 : 0 ≤ b * (a / b) := Int.mul_nonneg (by omega) q0
  generalize b * (a / b) = p at hm p0
  rw [IntKind.wrap_u32, IntKind.wrap_u32]
  constructor <;> omega
def law1_WordBack.pre (a b n : Int) : Bool := decide (0 ≤ a ∧ a < 4294967296) && decide (0 ≤ b ∧ b < 4294967296) && decide (0 ≤ n ∧ n < 256)
def law1_WordBack (a b n : Int) : Bool := true
theorem law1_WordBack.nice {R : Type} (a b n : Int) (hp : law1_WordBack.pre a b n = true) (ret : Bool → Option R) : law1_WordBack.tree a b n ret = ret (law1_WordBack a b n) := by
  unfold law1_WordBack.pre at hp
  simp only [Bool.and_eq_true, decide_eq_true_eq] at hp
  obtain ⟨⟨ha, hb⟩, hn⟩ := hp
  have ha' : U32 a := ha
  have hb' : U32 b := hb
  have ek : IntKind.wrap .i64 (IntKind.wrap .i64 (Int.tmod n 31) + 1) = n % 31 + 1 := by
    rw [Int.tmod_eq_emod_of_nonneg hn.1, IntKind.wrap_i64, IntKind.wrap_i64]
    omega
  have hs : (word_AddCarry a b false).1 = (a + b) % 4294967296 := by rw [(addc_sum ha' hb' false).1]; simp
  have us : U32 ((a + b) % 4294967296) := by unfold U32; omega
  have un : U32 (4294967295 - b) := by unfold U32; omega
  obtain ⟨d1, d2⟩ := addc_sum us un true
  obtain ⟨o1, o2⟩ := addc_sum ha' un true
  simp only [cond_true] at d1 d2 o1 o2
  have c1 : ((a + b) % 4294967296 + (4294967295 - b) + 1) % 4294967296 = a := by omega
  have c2 : decide ((a + b) % 4294967296 + (4294967295 - b) + 1 ≥ 4294967296) = decide ((a + b) % 4294967296 ≥ b) := decide_eq_decide.mpr (by omega)
  have c3 : decide (a + (4294967295 - b) + 1 ≥ 4294967296) = decide (a ≥ b) := decide_eq_decide.mpr (by omega)
  unfold law1_WordBack.tree
  rw [ek, show IntKind.wrap .i64 (32 - (n % 31 + 1)) = 32 - (n % 31 + 1) by rw [IntKind.wrap_i64]; omega, hs, not_bv hb', d1, d2, o2, c1, c2, c3, back_turn ha' (by omega) (by omega), rev_rev ha', rbit_rbit ha', rev16_rev16 ha', rev_rbit ha', mul_comm64 b a, mul_low ha' hb', told_again, bb, bb]
  simp only [beq_self_eq_true, Bool.true_and, Bool.and_true]
  by_cases h : b = 0
  · subst h; rfl
  · have e0 : (b == 0) = false := by simpa using h
    obtain ⟨v1, v2⟩ := div_back ha' hb' h
    rw [e0, decide_eq_true v1, decide_eq_true v2]
    rfl

def law1_WordBack.ctr : Ctr := ctrOf [Ty.int IntKind.u32, Ty.int IntKind.u32, Ty.int IntKind.u8] fun x => .guard (law1_WordBack.pre (x.1) (x.2.1) (x.2.2.1)) (.ret [⟨Ty.bool, law1_WordBack (x.1) (x.2.1) (x.2.2.1)⟩])
theorem law1_WordBack.known : Known Try.prog 11 law1_WordBack.ctr :=
  known_plain law1_WordBack.envOk mixed Try.func11 (by kernel_rfl) (by kernel_rfl) (noLoops (by kernel_rfl)) (bySpot (ids := [2000014]) (by kernel_rfl) (by intro q hq; simp only [List.mem_cons, List.not_mem_nil, or_false] at hq; subst hq; first | exact law1_WordBack.sum2000014_ok)) fun x rs h => by
    obtain ⟨a0, a1, a2, u⟩ := x
    cases u
    simp only [Cmd.val_guard, Cmd.val_ret] at h
    split at h <;> try (cases h; done)
    rename_i hp
    exact (law1_WordBack.eq a0 a1 a2).trans ((law1_WordBack.nice a0 a1 a2 hp (fun r0 => some ([⟨Ty.bool, r0⟩] : List DVal))).trans h)
end
end Go.D.Ytbcjiicaekfjlaa
