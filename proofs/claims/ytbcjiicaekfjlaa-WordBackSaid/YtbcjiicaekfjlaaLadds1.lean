import Derived.Test.YtbcjiicaekfjlaaChecked
import Derived.Test.YtbcjiicaekfjlaaDX
import Derived.KernelRfl
import Derived.Test.YtbcjiicaekfjlaaLbits1
import Derived.Test.YtbcjiicaekfjlaaLtimes1
namespace Go.D.Ytbcjiicaekfjlaa
open Go.Proofs
set_option linter.unusedVariables false
set_option linter.unusedSimpArgs false
set_option maxRecDepth 100000
noncomputable section


/-! ### law1_WordAdds -/
def law1_WordAdds.env : Env := envCons 25 law1_known.ctr <| envCons 26 word_Shift.ctr <| envCons 27 ref1_Shift.ctr <| envCons 28 word_AddCarry.ctr <| envCons 29 ref1_AddCarry.ctr <| envNil
theorem law1_WordAdds.envOk : EnvOk Try.prog law1_WordAdds.env := envOk_cons law1_known.known (envOk_cons word_Shift.known (envOk_cons ref1_Shift.known (envOk_cons word_AddCarry.known (envOk_cons ref1_AddCarry.known (envOk_nil _)))))
theorem top_bv (x : BitVec 32) : (shr .u32 (x.toNat : Int) 31 == 1) = x.msb := by
  rw [shr_bv, BitVec.msb_eq_decide]
  show (((x >>> 31).toNat : Int) == 1) = _
  rw [BitVec.toNat_ushiftRight, Nat.shiftRight_eq_div_pow]
  have := x.isLt
  by_cases h : 2 ^ (32 - 1) ≤ x.toNat
  · rw [decide_eq_true h]
    simp only [beq_iff_eq]
    omega
  · rw [decide_eq_false h]
    simp only [beq_eq_false_iff_ne, ne_eq]
    omega
theorem msb_int (x : BitVec 32) : x.msb = decide (2147483648 ≤ (x.toNat : Int)) := by
  rw [BitVec.msb_eq_decide]
  exact decide_eq_decide.mpr (by omega)
theorem top_and_xor {a b v : Int} (ha : U32 a) (hb : U32 b) (hv : U32 v) : (shr .u32 (bitop .and .u32 (bitop .xor .u32 a v) (bitop .xor .u32 b v)) 31 == 1) = ((decide (2147483648 ≤ a) ^^ decide (2147483648 ≤ v)) && (decide (2147483648 ≤ b) ^^ decide (2147483648 ≤ v))) := by
  obtain ⟨x, rfl⟩ := bv_of ha.1 ha.2
  obtain ⟨y, rfl⟩ := bv_of hb.1 hb.2
  obtain ⟨z, rfl⟩ := bv_of hv.1 hv.2
  rw [xor_bv, xor_bv, and_bv, ofInt_bv, ofInt_bv, ofInt_bv, ofInt_bv, ofInt_bv, top_bv, BitVec.msb_and, BitVec.msb_xor, BitVec.msb_xor, msb_int, msb_int, msb_int]
theorem shr64 (x : Int) : shr .u64 x 32 = x / 4294967296 := by
  show x.fdiv 4294967296 = _
  exact Int.fdiv_eq_ediv_of_nonneg _ (by decide)
theorem sum_over {a b c v : Int} (ha : U32 a) (hb : U32 b) (hc : 0 ≤ c ∧ c ≤ 1) (hv : v = (a + b + c) % 4294967296) :
    (((if a < 2147483648 then a else a - 4294967296) + (if b < 2147483648 then b else b - 4294967296) + c) != (if v < 2147483648 then v else v - 4294967296)) = ((decide (2147483648 ≤ a) ^^ decide (2147483648 ≤ v)) && (decide (2147483648 ≤ b) ^^ decide (2147483648 ≤ v))) := by
  unfold U32 at ha hb
  by_cases h1 : a < 2147483648 <;> by_cases h2 : b < 2147483648 <;> by_cases h3 : v < 2147483648 <;> simp only [h1, h2, h3, if_true, if_false, (by omega : (2147483648 ≤ a) ↔ ¬ a < 2147483648), (by omega : (2147483648 ≤ b) ↔ ¬ b < 2147483648), (by omega : (2147483648 ≤ v) ↔ ¬ v < 2147483648), not_true, not_false_eq_true, decide_true, decide_false, Bool.xor_false, Bool.xor_true, Bool.not_false, Bool.not_true, Bool.and_true, Bool.and_false, Bool.false_xor, Bool.true_xor, bne_iff_ne, ne_eq, bne_eq_false_iff_eq, Bool.and_self] <;> omega
theorem signed32 {a : Int} (ha : U32 a) : IntKind.wrap .i64 (IntKind.wrap .i32 a) = if a < 2147483648 then a else a - 4294967296 := by
  unfold U32 at ha
  rw [i64_i32, IntKind.wrap_i32]
  split <;> omega
theorem addc_eq {a b : Int} (ha : U32 a) (hb : U32 b) (c : Bool) : ref1_AddCarry a b c = word_AddCarry a b c := by
  have e64 : ∀ x : Int, 0 ≤ x → x < 18446744073709551616 → IntKind.wrap .u64 x = x := fun x h0 h1 => by rw [IntKind.wrap_u64]; omega
  have i64 : ∀ x : Int, -9223372036854775808 ≤ x → x < 9223372036854775808 → IntKind.wrap .i64 x = x := fun x h0 h1 => by rw [IntKind.wrap_i64]; omega
  have ba := ha
  have bb := hb
  unfold U32 at ba bb
  unfold ref1_AddCarry word_AddCarry bits_Add32
  rw [mask_u64, e64 a (by omega) (by omega), e64 b (by omega) (by omega), e64 (a + b) (by omega) (by omega), signed32 ha, signed32 hb]
  have sa : -2147483648 ≤ (if a < 2147483648 then a else a - 4294967296) ∧ (if a < 2147483648 then a else a - 4294967296) < 2147483648 := by split <;> omega
  have sb : -2147483648 ≤ (if b < 2147483648 then b else b - 4294967296) ∧ (if b < 2147483648 then b else b - 4294967296) < 2147483648 := by split <;> omega
  have key : ∀ C : Int, 0 ≤ C ∧ C ≤ 1 → U32 (IntKind.wrap .u32 (a + b + C)) ∧ ((((if a < 2147483648 then a else a - 4294967296) + (if b < 2147483648 then b else b - 4294967296) + C) != IntKind.wrap .i64 (IntKind.wrap .i32 (IntKind.wrap .u32 (a + b + C)))) = (shr .u32 (bitop .and .u32 (bitop .xor .u32 a (IntKind.wrap .u32 (a + b + C))) (bitop .xor .u32 b (IntKind.wrap .u32 (a + b + C)))) 31 == 1)) ∧ (decide (a + b + C > 4294967295) = (IntKind.wrap .u32 (shr .u64 (a + b + C) 32) == 1)) := by
    intro C hC
    have hv : U32 (IntKind.wrap .u32 (a + b + C)) := by rw [IntKind.wrap_u32]; unfold U32; omega
    refine ⟨hv, ?_, ?_⟩
    · rw [signed32 hv, top_and_xor ha hb hv]
      exact sum_over ha hb hC (by rw [IntKind.wrap_u32])
    · rw [shr64, IntKind.wrap_u32]
      by_cases h : a + b + C > 4294967295
      · rw [decide_eq_true h]
        symm
        rw [beq_iff_eq]
        omega
      · rw [decide_eq_false h]
        symm
        rw [beq_eq_false_iff_ne]
        omega
  cases c with
  | false =>
    obtain ⟨_, k2, k3⟩ := key 0 (by omega)
    simp only [cond_false, cond_true, Int.add_zero] at k2 k3 ⊢
    rw [i64 (_ + _) (by omega) (by omega), e64 0 (by omega) (by omega), Int.add_zero, e64 (a + b) (by omega) (by omega), k2, k3]
  | true =>
    obtain ⟨_, k2, k3⟩ := key 1 (by omega)
    simp only [cond_false, cond_true] at k2 k3 ⊢
    rw [i64 ((if a < 2147483648 then a else a - 4294967296) + _) (by omega) (by omega), i64 (_ + 1) (by omega) (by omega), e64 1 (by omega) (by omega), e64 (a + b + 1) (by omega) (by omega), k2, k3]
theorem beq_bool' (b : Bool) : eqD Ty.bool b b = true := by cases b <;> rfl
def law1_WordAdds.T2000011 : Tm := ⟨fill 0 135 [(0, Sl.data (Ty.int IntKind.u32)), (1, Sl.data (Ty.int IntKind.u32)), (2, Sl.data Ty.bool), (3, Sl.data (Ty.int IntKind.i64)), (12, Sl.data (Ty.int IntKind.i64)), (15, Sl.data (Ty.int IntKind.u32)), (16, Sl.data Ty.bool), (17, Sl.data (Ty.int IntKind.u32)), (18, Sl.data Ty.bool), (30, Sl.data (Ty.sl (Ty.int IntKind.i64))), (31, Sl.data (Ty.int IntKind.i64)), (32, Sl.data (Ty.int IntKind.i64)), (42, Sl.data (Ty.sl (Ty.int IntKind.i64))), (43, Sl.data (Ty.int IntKind.i64)), (44, Sl.data (Ty.int IntKind.i64))], []⟩
def law1_WordAdds.X2000011_normal : Tm := ⟨fill 0 135 [(0, Sl.data (Ty.int IntKind.u32)), (1, Sl.data (Ty.int IntKind.u32)), (2, Sl.data Ty.bool), (3, Sl.data (Ty.int IntKind.i64)), (12, Sl.data (Ty.int IntKind.i64)), (30, Sl.data (Ty.sl (Ty.int IntKind.i64))), (31, Sl.data (Ty.int IntKind.i64)), (32, Sl.data (Ty.int IntKind.i64)), (42, Sl.data (Ty.sl (Ty.int IntKind.i64))), (43, Sl.data (Ty.int IntKind.i64)), (44, Sl.data (Ty.int IntKind.i64)), (71, Sl.data Ty.bool)], []⟩
def law1_WordAdds.o2000011 {R : Type} (v0 : Int) (v1 : Int) (v2 : Bool) (v3 : Int) (v4 : Int) (v5 : Int) (v6 : Bool) (v7 : Int) (v8 : Bool) (v9 : List Int) (v10 : Int) (v11 : Int) (v12 : List Int) (v13 : Int) (v14 : Int) (knormal : Int → Int → Bool → Int → Int → (List Int) → Int → Int → (List Int) → Int → Int → Bool → Option R) : Option R :=
  bif v5 != v7 then knormal v0 v1 v2 v3 v4 v9 v10 v11 v12 v13 v14 true else knormal v0 v1 v2 v3 v4 v9 v10 v11 v12 v13 v14 !eqD Ty.bool v6 v8
def law1_WordAdds.s2000011 {R : Type} (v0 : Int) (v1 : Int) (v2 : Bool) (v3 : Int) (v4 : Int) (v5 : Int) (v6 : Bool) (v7 : Int) (v8 : Bool) (v9 : List Int) (v10 : Int) (v11 : Int) (v12 : List Int) (v13 : Int) (v14 : Int) (knormal : Int → Int → Bool → Int → Int → (List Int) → Int → Int → (List Int) → Int → Int → Bool → Option R) : Option R :=
  knormal v0 v1 v2 v3 v4 v9 v10 v11 v12 v13 v14 (v5 != v7 || !eqD Ty.bool v6 v8)
theorem law1_WordAdds.s2000011_eq {R : Type} (v0 : Int) (v1 : Int) (v2 : Bool) (v3 : Int) (v4 : Int) (v5 : Int) (v6 : Bool) (v7 : Int) (v8 : Bool) (v9 : List Int) (v10 : Int) (v11 : Int) (v12 : List Int) (v13 : Int) (v14 : Int) (knormal : Int → Int → Bool → Int → Int → (List Int) → Int → Int → (List Int) → Int → Int → Bool → Option R) : law1_WordAdds.s2000011 v0 v1 v2 v3 v4 v5 v6 v7 v8 v9 v10 v11 v12 v13 v14 knormal = law1_WordAdds.o2000011 v0 v1 v2 v3 v4 v5 v6 v7 v8 v9 v10 v11 v12 v13 v14 knormal := by
  unfold law1_WordAdds.s2000011 law1_WordAdds.o2000011
  (cases hc : v5 != v7 with | false => (first | rfl | simp_all) | true => (first | rfl | simp_all))
def law1_WordAdds.T2 : Tm := ⟨fill 0 135 [(0, Sl.data (Ty.int IntKind.u32)), (1, Sl.data (Ty.int IntKind.u32)), (2, Sl.data Ty.bool), (3, Sl.data (Ty.int IntKind.i64)), (12, Sl.data (Ty.int IntKind.i64)), (30, Sl.data (Ty.sl (Ty.int IntKind.i64))), (31, Sl.data (Ty.int IntKind.i64)), (32, Sl.data (Ty.int IntKind.i64)), (42, Sl.data (Ty.sl (Ty.int IntKind.i64))), (43, Sl.data (Ty.int IntKind.i64)), (44, Sl.data (Ty.int IntKind.i64))], []⟩
def law1_WordAdds.X2_ret : Tm := ⟨fill 0 135 [(0, Sl.data (Ty.int IntKind.u32)), (1, Sl.data (Ty.int IntKind.u32)), (2, Sl.data Ty.bool), (3, Sl.data (Ty.int IntKind.i64)), (10, Sl.data Ty.bool), (30, Sl.data (Ty.sl (Ty.int IntKind.i64))), (31, Sl.data (Ty.int IntKind.i64)), (32, Sl.data (Ty.int IntKind.i64))], []⟩
def law1_WordAdds.X2_exit2 : Tm := ⟨fill 0 135 [(0, Sl.data (Ty.int IntKind.u32)), (1, Sl.data (Ty.int IntKind.u32)), (2, Sl.data Ty.bool), (3, Sl.data (Ty.int IntKind.i64)), (30, Sl.data (Ty.sl (Ty.int IntKind.i64))), (31, Sl.data (Ty.int IntKind.i64)), (32, Sl.data (Ty.int IntKind.i64))], []⟩
def law1_WordAdds.round2 {R : Type} (v0 : Int) (v1 : Int) (v2 : Bool) (v3 : Int) (v4 : Int) (v5 : List Int) (v6 : Int) (v7 : Int) (v8 : List Int) (v9 : Int) (v10 : Int) (next : Int → Int → Bool → Int → Int → (List Int) → Int → Int → (List Int) → Int → Int → Option R) (kret : Int → Int → Bool → Int → Bool → (List Int) → Int → Int → Option R) (kexit2 : Int → Int → Bool → Int → (List Int) → Int → Int → Option R) : Option R :=
  bif decide (v10 < v9) then bif decide ((0 : Int) ≤ v10) && decide (v10 < ↑(List.length v8)) then bif word_Shift.pre v0 v4 (List.getD v8 (Int.toNat v10) (0 : Int)) v2 then bif ref1_Shift.pre v0 v4 (List.getD v8 (Int.toNat v10) (0 : Int)) v2 then bif Prod.fst (word_Shift v0 v4 (List.getD v8 (Int.toNat v10) (0 : Int)) v2) != Prod.fst (ref1_Shift v0 v4 (List.getD v8 (Int.toNat v10) (0 : Int)) v2) || !eqD Ty.bool (Prod.snd (word_Shift v0 v4 (List.getD v8 (Int.toNat v10) (0 : Int)) v2)) (Prod.snd (ref1_Shift v0 v4 (List.getD v8 (Int.toNat v10) (0 : Int)) v2)) then kret v0 v1 v2 v3 false v5 v6 v7 else next v0 v1 v2 v3 v4 v5 v6 v7 v8 v9 (IntKind.wrap IntKind.i64 (v10 + (1 : Int))) else none else none else none else kexit2 v0 v1 v2 v3 v5 v6 v7
def law1_WordAdds.R2 {R : Type} (kret : Int → Int → Bool → Int → Bool → (List Int) → Int → Int → Option R) (kexit2 : Int → Int → Bool → Int → (List Int) → Int → Int → Option R) : (Int × Int × Bool × Int × Int × (List Int) × Int × Int × (List Int) × Int × Int) → ((Int × Int × Bool × Int × Int × (List Int) × Int × Int × (List Int) × Int × Int) → Option R) → Option R := fun (v0, v1, v2, v3, v4, v5, v6, v7, v8, v9, v10) next => law1_WordAdds.round2 v0 v1 v2 v3 v4 v5 v6 v7 v8 v9 v10 (fun w0 w1 w2 w3 w4 w5 w6 w7 w8 w9 w10 => next (w0, w1, w2, w3, w4, w5, w6, w7, w8, w9, w10)) kret kexit2
theorem law1_WordAdds.R2_eq {R : Type} (kret : Int → Int → Bool → Int → Bool → (List Int) → Int → Int → Option R) (kexit2 : Int → Int → Bool → Int → (List Int) → Int → Int → Option R) (v0 : Int) (v1 : Int) (v2 : Bool) (v3 : Int) (v4 : Int) (v5 : List Int) (v6 : Int) (v7 : Int) (v8 : List Int) (v9 : Int) (v10 : Int) (next : (Int × Int × Bool × Int × Int × (List Int) × Int × Int × (List Int) × Int × Int) → Option R) : law1_WordAdds.R2 kret kexit2 (v0, v1, v2, v3, v4, v5, v6, v7, v8, v9, v10) next = law1_WordAdds.round2 v0 v1 v2 v3 v4 v5 v6 v7 v8 v9 v10 (fun w0 w1 w2 w3 w4 w5 w6 w7 w8 w9 w10 => next (w0, w1, w2, w3, w4, w5, w6, w7, w8, w9, w10)) kret kexit2 := rfl
def law1_WordAdds.loop2 {R : Type} (v0 : Int) (v1 : Int) (v2 : Bool) (v3 : Int) (v4 : Int) (v5 : List Int) (v6 : Int) (v7 : Int) (v8 : List Int) (v9 : Int) (v10 : Int) (kret : Int → Int → Bool → Int → Bool → (List Int) → Int → Int → Option R) (kexit2 : Int → Int → Bool → Int → (List Int) → Int → Int → Option R) : Option R :=
  open Classical in
  if v9 = v8.length ∧ v9 < 4611686018427387904 ∧ 0 ≤ v10 ∧ v10 ≤ v9 ∧ U32 v0 then kexit2 v0 v1 v2 v3 v5 v6 v7 else none
theorem law1_WordAdds.loop2_ok {R : Type} (v0 : Int) (v1 : Int) (v2 : Bool) (v3 : Int) (v4 : Int) (v5 : List Int) (v6 : Int) (v7 : Int) (v8 : List Int) (v9 : Int) (v10 : Int) (kret : Int → Int → Bool → Int → Bool → (List Int) → Int → Int → Option R) (kexit2 : Int → Int → Bool → Int → (List Int) → Int → Int → Option R) (r : R) (h : law1_WordAdds.loop2 v0 v1 v2 v3 v4 v5 v6 v7 v8 v9 v10 kret kexit2 = some r) : ∃ n, lp (law1_WordAdds.R2 kret kexit2) n (v0, v1, v2, v3, v4, v5, v6, v7, v8, v9, v10) = some r := by
  unfold law1_WordAdds.loop2 at h
  split at h <;> try (cases h; done)
  rename_i hc
  obtain ⟨h1, h2, h3, h4, h5⟩ := hc
  rw [← h]
  refine lp_pass (fun i => (v0, v1, v2, v3, v4, v5, v6, v7, v8, v9, i)) (n := v9) ?_ ?_ v10 h3 h4
  · intro i i0 i1 next
    rw [law1_WordAdds.R2_eq, law1_WordAdds.round2, decide_eq_true i1, decide_eq_true i0, decide_eq_true (h1 ▸ i1 : i < (v8.length : Int)), shift_eq h5, beq_bool', bne_self_eq_false, wrap_next i0 i1 h2]
    rfl
  · intro next
    rw [law1_WordAdds.R2_eq, law1_WordAdds.round2, decide_eq_false (Int.lt_irrefl _)]
    rfl
def law1_WordAdds.T0 : Tm := ⟨fill 0 135 [(0, Sl.data (Ty.int IntKind.u32)), (1, Sl.data (Ty.int IntKind.u32)), (2, Sl.data Ty.bool), (3, Sl.data (Ty.int IntKind.i64)), (30, Sl.data (Ty.sl (Ty.int IntKind.i64))), (31, Sl.data (Ty.int IntKind.i64)), (32, Sl.data (Ty.int IntKind.i64))], []⟩
def law1_WordAdds.X0_ret : Tm := ⟨fill 0 135 [(0, Sl.data (Ty.int IntKind.u32)), (1, Sl.data (Ty.int IntKind.u32)), (2, Sl.data Ty.bool), (10, Sl.data Ty.bool)], []⟩
def law1_WordAdds.X0_exit0 : Tm := ⟨fill 0 135 [(0, Sl.data (Ty.int IntKind.u32)), (1, Sl.data (Ty.int IntKind.u32)), (2, Sl.data Ty.bool)], []⟩
def law1_WordAdds.round0 {R : Type} (v0 : Int) (v1 : Int) (v2 : Bool) (v3 : Int) (v4 : List Int) (v5 : Int) (v6 : Int) (next : Int → Int → Bool → Int → (List Int) → Int → Int → Option R) (kret : Int → Int → Bool → Bool → Option R) (kexit0 : Int → Int → Bool → Option R) : Option R :=
  bif decide (v6 < v5) then bif decide ((0 : Int) ≤ v6) && decide (v6 < ↑(List.length v4)) then law1_WordAdds.loop2 v0 v1 v2 v3 (List.getD v4 (Int.toNat v6) (0 : Int)) v4 v5 v6 [v3, bitop BinOp.and IntKind.i64 v3 (31 : Int), IntKind.wrap IntKind.i64 (bitop BinOp.and IntKind.i64 v3 (63 : Int) + (1 : Int)), (32 : Int), (0 : Int)] (5 : Int) (0 : Int) (fun e0 e1 e2 e3 e4 e5 e6 e7 => kret e0 e1 e2 e4) fun e0 e1 e2 e3 e4 e5 e6 => next e0 e1 e2 e3 e4 e5 (IntKind.wrap IntKind.i64 (e6 + (1 : Int))) else none else kexit0 v0 v1 v2
def law1_WordAdds.R0 {R : Type} (kret : Int → Int → Bool → Bool → Option R) (kexit0 : Int → Int → Bool → Option R) : (Int × Int × Bool × Int × (List Int) × Int × Int) → ((Int × Int × Bool × Int × (List Int) × Int × Int) → Option R) → Option R := fun (v0, v1, v2, v3, v4, v5, v6) next => law1_WordAdds.round0 v0 v1 v2 v3 v4 v5 v6 (fun w0 w1 w2 w3 w4 w5 w6 => next (w0, w1, w2, w3, w4, w5, w6)) kret kexit0
theorem law1_WordAdds.R0_eq {R : Type} (kret : Int → Int → Bool → Bool → Option R) (kexit0 : Int → Int → Bool → Option R) (v0 : Int) (v1 : Int) (v2 : Bool) (v3 : Int) (v4 : List Int) (v5 : Int) (v6 : Int) (next : (Int × Int × Bool × Int × (List Int) × Int × Int) → Option R) : law1_WordAdds.R0 kret kexit0 (v0, v1, v2, v3, v4, v5, v6) next = law1_WordAdds.round0 v0 v1 v2 v3 v4 v5 v6 (fun w0 w1 w2 w3 w4 w5 w6 => next (w0, w1, w2, w3, w4, w5, w6)) kret kexit0 := rfl
def law1_WordAdds.loop0 {R : Type} (v0 : Int) (v1 : Int) (v2 : Bool) (v3 : Int) (v4 : List Int) (v5 : Int) (v6 : Int) (kret : Int → Int → Bool → Bool → Option R) (kexit0 : Int → Int → Bool → Option R) : Option R :=
  open Classical in
  if v5 = v4.length ∧ v5 < 4611686018427387904 ∧ 0 ≤ v6 ∧ v6 ≤ v5 ∧ U32 v0 then kexit0 v0 v1 v2 else none
theorem law1_WordAdds.loop0_ok {R : Type} (v0 : Int) (v1 : Int) (v2 : Bool) (v3 : Int) (v4 : List Int) (v5 : Int) (v6 : Int) (kret : Int → Int → Bool → Bool → Option R) (kexit0 : Int → Int → Bool → Option R) (r : R) (h : law1_WordAdds.loop0 v0 v1 v2 v3 v4 v5 v6 kret kexit0 = some r) : ∃ n, lp (law1_WordAdds.R0 kret kexit0) n (v0, v1, v2, v3, v4, v5, v6) = some r := by
  unfold law1_WordAdds.loop0 at h
  split at h <;> try (cases h; done)
  rename_i hc
  obtain ⟨h1, h2, h3, h4, h5⟩ := hc
  rw [← h]
  refine lp_pass (fun i => (v0, v1, v2, v3, v4, v5, i)) (n := v5) ?_ ?_ v6 h3 h4
  · intro i i0 i1 next
    rw [law1_WordAdds.R0_eq, law1_WordAdds.round0, decide_eq_true i1, decide_eq_true i0, decide_eq_true (h1 ▸ i1 : i < (v4.length : Int)), law1_WordAdds.loop2, if_pos ⟨rfl, by decide, by decide, by decide, h5⟩, wrap_next i0 i1 h2]
    rfl
  · intro next
    rw [law1_WordAdds.R0_eq, law1_WordAdds.round0, decide_eq_false (Int.lt_irrefl _)]
    rfl
def law1_WordAdds.T2000020 : Tm := ⟨fill 0 135 [(2, Sl.data Ty.bool), (21, Sl.data (Ty.int IntKind.u32)), (22, Sl.data Ty.bool), (23, Sl.data Ty.bool), (24, Sl.data (Ty.int IntKind.u32)), (25, Sl.data Ty.bool), (26, Sl.data Ty.bool), (95, Sl.data (Ty.sl (Ty.arr (2 : Nat) (Ty.int IntKind.u32)))), (96, Sl.data (Ty.int IntKind.i64)), (97, Sl.data (Ty.int IntKind.i64))], []⟩
def law1_WordAdds.X2000020_normal : Tm := ⟨fill 0 135 [(2, Sl.data Ty.bool), (95, Sl.data (Ty.sl (Ty.arr (2 : Nat) (Ty.int IntKind.u32)))), (96, Sl.data (Ty.int IntKind.i64)), (97, Sl.data (Ty.int IntKind.i64)), (133, Sl.data Ty.bool)], []⟩
def law1_WordAdds.o2000020 {R : Type} (v0 : Bool) (v1 : Int) (v2 : Bool) (v3 : Bool) (v4 : Int) (v5 : Bool) (v6 : Bool) (v7 : List (List Int)) (v8 : Int) (v9 : Int) (knormal : Bool → (List (List Int)) → Int → Int → Bool → Option R) : Option R :=
  bif v1 != v4 then knormal v0 v7 v8 v9 true else bif !eqD Ty.bool v2 v5 then knormal v0 v7 v8 v9 true else knormal v0 v7 v8 v9 !eqD Ty.bool v3 v6
def law1_WordAdds.s2000020 {R : Type} (v0 : Bool) (v1 : Int) (v2 : Bool) (v3 : Bool) (v4 : Int) (v5 : Bool) (v6 : Bool) (v7 : List (List Int)) (v8 : Int) (v9 : Int) (knormal : Bool → (List (List Int)) → Int → Int → Bool → Option R) : Option R :=
  knormal v0 v7 v8 v9 (v1 != v4 || (!eqD Ty.bool v2 v5 || !eqD Ty.bool v3 v6))
theorem law1_WordAdds.s2000020_eq {R : Type} (v0 : Bool) (v1 : Int) (v2 : Bool) (v3 : Bool) (v4 : Int) (v5 : Bool) (v6 : Bool) (v7 : List (List Int)) (v8 : Int) (v9 : Int) (knormal : Bool → (List (List Int)) → Int → Int → Bool → Option R) : law1_WordAdds.s2000020 v0 v1 v2 v3 v4 v5 v6 v7 v8 v9 knormal = law1_WordAdds.o2000020 v0 v1 v2 v3 v4 v5 v6 v7 v8 v9 knormal := by
  unfold law1_WordAdds.s2000020 law1_WordAdds.o2000020
  (cases hc : v1 != v4 with | false => (cases hc : !eqD Ty.bool v2 v5 with | false => (first | rfl | simp_all) | true => (first | rfl | simp_all)) | true => (first | rfl | simp_all))
def law1_WordAdds.T4 : Tm := ⟨fill 0 135 [(2, Sl.data Ty.bool), (95, Sl.data (Ty.sl (Ty.arr (2 : Nat) (Ty.int IntKind.u32)))), (96, Sl.data (Ty.int IntKind.i64)), (97, Sl.data (Ty.int IntKind.i64))], []⟩
def law1_WordAdds.X4_ret : Tm := ⟨fill 0 135 [(10, Sl.data Ty.bool)], []⟩
def law1_WordAdds.X4_exit4 : Tm := ⟨fill 0 135 [], []⟩
def law1_WordAdds.round4 {R : Type} (v0 : Bool) (v1 : List (List Int)) (v2 : Int) (v3 : Int) (next : Bool → (List (List Int)) → Int → Int → Option R) (kret : Bool → Option R) (kexit4 : Option R) : Option R :=
  bif decide (v3 < v2) then bif decide ((0 : Int) ≤ v3) && decide (v3 < ↑(List.length v1)) then bif Prod.fst (word_AddCarry (List.getD (List.getD v1 (Int.toNat v3) (Ty.dflt (Ty.arr (2 : Nat) (Ty.int IntKind.u32)))) (0 : Nat) (0 : Int)) (List.getD (List.getD v1 (Int.toNat v3) (Ty.dflt (Ty.arr (2 : Nat) (Ty.int IntKind.u32)))) (1 : Nat) (0 : Int)) v0) != Prod.fst (ref1_AddCarry (List.getD (List.getD v1 (Int.toNat v3) (Ty.dflt (Ty.arr (2 : Nat) (Ty.int IntKind.u32)))) (0 : Nat) (0 : Int)) (List.getD (List.getD v1 (Int.toNat v3) (Ty.dflt (Ty.arr (2 : Nat) (Ty.int IntKind.u32)))) (1 : Nat) (0 : Int)) v0) || (!eqD Ty.bool (Prod.fst (Prod.snd (word_AddCarry (List.getD (List.getD v1 (Int.toNat v3) (Ty.dflt (Ty.arr (2 : Nat) (Ty.int IntKind.u32)))) (0 : Nat) (0 : Int)) (List.getD (List.getD v1 (Int.toNat v3) (Ty.dflt (Ty.arr (2 : Nat) (Ty.int IntKind.u32)))) (1 : Nat) (0 : Int)) v0))) (Prod.fst (Prod.snd (ref1_AddCarry (List.getD (List.getD v1 (Int.toNat v3) (Ty.dflt (Ty.arr (2 : Nat) (Ty.int IntKind.u32)))) (0 : Nat) (0 : Int)) (List.getD (List.getD v1 (Int.toNat v3) (Ty.dflt (Ty.arr (2 : Nat) (Ty.int IntKind.u32)))) (1 : Nat) (0 : Int)) v0))) || !eqD Ty.bool (Prod.snd (Prod.snd (word_AddCarry (List.getD (List.getD v1 (Int.toNat v3) (Ty.dflt (Ty.arr (2 : Nat) (Ty.int IntKind.u32)))) (0 : Nat) (0 : Int)) (List.getD (List.getD v1 (Int.toNat v3) (Ty.dflt (Ty.arr (2 : Nat) (Ty.int IntKind.u32)))) (1 : Nat) (0 : Int)) v0))) (Prod.snd (Prod.snd (ref1_AddCarry (List.getD (List.getD v1 (Int.toNat v3) (Ty.dflt (Ty.arr (2 : Nat) (Ty.int IntKind.u32)))) (0 : Nat) (0 : Int)) (List.getD (List.getD v1 (Int.toNat v3) (Ty.dflt (Ty.arr (2 : Nat) (Ty.int IntKind.u32)))) (1 : Nat) (0 : Int)) v0)))) then kret false else next v0 v1 v2 (IntKind.wrap IntKind.i64 (v3 + (1 : Int))) else none else kexit4
def law1_WordAdds.R4 {R : Type} (kret : Bool → Option R) (kexit4 : Option R) : (Bool × (List (List Int)) × Int × Int) → ((Bool × (List (List Int)) × Int × Int) → Option R) → Option R := fun (v0, v1, v2, v3) next => law1_WordAdds.round4 v0 v1 v2 v3 (fun w0 w1 w2 w3 => next (w0, w1, w2, w3)) kret kexit4
theorem law1_WordAdds.R4_eq {R : Type} (kret : Bool → Option R) (kexit4 : Option R) (v0 : Bool) (v1 : List (List Int)) (v2 : Int) (v3 : Int) (next : (Bool × (List (List Int)) × Int × Int) → Option R) : law1_WordAdds.R4 kret kexit4 (v0, v1, v2, v3) next = law1_WordAdds.round4 v0 v1 v2 v3 (fun w0 w1 w2 w3 => next (w0, w1, w2, w3)) kret kexit4 := rfl
def law1_WordAdds.loop4 {R : Type} (v0 : Bool) (v1 : List (List Int)) (v2 : Int) (v3 : Int) (kret : Bool → Option R) (kexit4 : Option R) : Option R :=
  open Classical in
  if v2 = v1.length ∧ v2 < 4611686018427387904 ∧ 0 ≤ v3 ∧ v3 ≤ v2 ∧ (∀ x ∈ v1, U32 (List.getD x 0 0) ∧ U32 (List.getD x 1 0)) then kexit4 else none
theorem law1_WordAdds.loop4_ok {R : Type} (v0 : Bool) (v1 : List (List Int)) (v2 : Int) (v3 : Int) (kret : Bool → Option R) (kexit4 : Option R) (r : R) (h : law1_WordAdds.loop4 v0 v1 v2 v3 kret kexit4 = some r) : ∃ n, lp (law1_WordAdds.R4 kret kexit4) n (v0, v1, v2, v3) = some r := by
  unfold law1_WordAdds.loop4 at h
  split at h <;> try (cases h; done)
  rename_i hc
  obtain ⟨h1, h2, h3, h4, h5⟩ := hc
  rw [← h]
  refine lp_pass (fun i => (v0, v1, v2, i)) (n := v2) ?_ ?_ v3 h3 h4
  · intro i i0 i1 next
    obtain ⟨x, hx, hd⟩ := getD_at (d := Ty.dflt (Ty.arr 2 (Ty.int IntKind.u32))) i0 (h1 ▸ i1)
    obtain ⟨u1, u2⟩ := h5 x (by
      have : x ∈ v1.drop i.toNat := by rw [hd]; simp
      exact List.mem_of_mem_drop this)
    rw [law1_WordAdds.R4_eq, law1_WordAdds.round4, decide_eq_true i1, decide_eq_true i0, decide_eq_true (h1 ▸ i1 : i < (v1.length : Int)), hx, addc_eq u1 u2, beq_bool', beq_bool', bne_self_eq_false, wrap_next i0 i1 h2]
    rfl
  · intro next
    rw [law1_WordAdds.R4_eq, law1_WordAdds.round4, decide_eq_false (Int.lt_irrefl _)]
    rfl
def law1_WordAdds.C : Cfg := { rows := [], keep := [(2, [0, 1, 2, 3, 12, 30, 31, 32, 42, 43, 44], []), (1000002, [0, 1, 2, 3, 10, 30, 31, 32], []), (0, [0, 1, 2, 3, 30, 31, 32], []), (1000000, [0, 1, 2, 10], []), (4, [2, 95, 96, 97], []), (1000004, [10], []), (2000011, [0, 1, 2, 3, 12, 15, 16, 17, 18, 30, 31, 32, 42, 43, 44], []), (12000011, [0, 1, 2, 3, 12, 30, 31, 32, 42, 43, 44, 71], []), (2000020, [2, 21, 22, 23, 24, 25, 26, 95, 96, 97], []), (12000020, [2, 95, 96, 97, 133], [])], adopt := [] }
def law1_WordAdds.sum2000011 : FrV law1_WordAdds.T2000011.fr × StV law1_WordAdds.T2000011.st → (Ex → S → Option (List DVal)) → Option (List DVal) := fun ((v0, v1, v2, v3, v4, v5, v6, v7, v8, v9, v10, v11, v12, v13, v14, ()), (())) K => law1_WordAdds.s2000011 v0 v1 v2 v3 v4 v5 v6 v7 v8 v9 v10 v11 v12 v13 v14 (fun e0 e1 e2 e3 e4 e5 e6 e7 e8 e9 e10 e11 => K .normal (pack law1_WordAdds.X2000011_normal ((e0, e1, e2, e3, e4, e5, e6, e7, e8, e9, e10, e11, ()), (()))))
def law1_WordAdds.sum2000020 : FrV law1_WordAdds.T2000020.fr × StV law1_WordAdds.T2000020.st → (Ex → S → Option (List DVal)) → Option (List DVal) := fun ((v0, v1, v2, v3, v4, v5, v6, v7, v8, v9, ()), (())) K => law1_WordAdds.s2000020 v0 v1 v2 v3 v4 v5 v6 v7 v8 v9 (fun e0 e1 e2 e3 e4 => K .normal (pack law1_WordAdds.X2000020_normal ((e0, e1, e2, e3, e4, ()), (()))))
def law1_WordAdds.sum2 : FrV law1_WordAdds.T2.fr × StV law1_WordAdds.T2.st → (Ex → S → Option (List DVal)) → Option (List DVal) := fun ((v0, v1, v2, v3, v4, v5, v6, v7, v8, v9, v10, ()), (())) K => law1_WordAdds.loop2 v0 v1 v2 v3 v4 v5 v6 v7 v8 v9 v10 (fun e0 e1 e2 e3 e4 e5 e6 e7 => K .ret (pack law1_WordAdds.X2_ret ((e0, e1, e2, e3, e4, e5, e6, e7, ()), (())))) (fun e0 e1 e2 e3 e4 e5 e6 => K (.exit 2) (pack law1_WordAdds.X2_exit2 ((e0, e1, e2, e3, e4, e5, e6, ()), (()))))
def law1_WordAdds.rnd2 : FrV law1_WordAdds.T2.fr × StV law1_WordAdds.T2.st → (FrV law1_WordAdds.T2.fr × StV law1_WordAdds.T2.st → Option (List DVal)) → (Ex → S → Option (List DVal)) → Option (List DVal) := fun ((v0, v1, v2, v3, v4, v5, v6, v7, v8, v9, v10, ()), (())) next K => law1_WordAdds.round2 v0 v1 v2 v3 v4 v5 v6 v7 v8 v9 v10 (fun w0 w1 w2 w3 w4 w5 w6 w7 w8 w9 w10 => next ((w0, w1, w2, w3, w4, w5, w6, w7, w8, w9, w10, ()), (()))) (fun e0 e1 e2 e3 e4 e5 e6 e7 => K .ret (pack law1_WordAdds.X2_ret ((e0, e1, e2, e3, e4, e5, e6, e7, ()), (())))) (fun e0 e1 e2 e3 e4 e5 e6 => K (.exit 2) (pack law1_WordAdds.X2_exit2 ((e0, e1, e2, e3, e4, e5, e6, ()), (()))))
def law1_WordAdds.sum0 : FrV law1_WordAdds.T0.fr × StV law1_WordAdds.T0.st → (Ex → S → Option (List DVal)) → Option (List DVal) := fun ((v0, v1, v2, v3, v4, v5, v6, ()), (())) K => law1_WordAdds.loop0 v0 v1 v2 v3 v4 v5 v6 (fun e0 e1 e2 e3 => K .ret (pack law1_WordAdds.X0_ret ((e0, e1, e2, e3, ()), (())))) (fun e0 e1 e2 => K (.exit 0) (pack law1_WordAdds.X0_exit0 ((e0, e1, e2, ()), (()))))
def law1_WordAdds.rnd0 : FrV law1_WordAdds.T0.fr × StV law1_WordAdds.T0.st → (FrV law1_WordAdds.T0.fr × StV law1_WordAdds.T0.st → Option (List DVal)) → (Ex → S → Option (List DVal)) → Option (List DVal) := fun ((v0, v1, v2, v3, v4, v5, v6, ()), (())) next K => law1_WordAdds.round0 v0 v1 v2 v3 v4 v5 v6 (fun w0 w1 w2 w3 w4 w5 w6 => next ((w0, w1, w2, w3, w4, w5, w6, ()), (()))) (fun e0 e1 e2 e3 => K .ret (pack law1_WordAdds.X0_ret ((e0, e1, e2, e3, ()), (())))) (fun e0 e1 e2 => K (.exit 0) (pack law1_WordAdds.X0_exit0 ((e0, e1, e2, ()), (()))))
def law1_WordAdds.sum4 : FrV law1_WordAdds.T4.fr × StV law1_WordAdds.T4.st → (Ex → S → Option (List DVal)) → Option (List DVal) := fun ((v0, v1, v2, v3, ()), (())) K => law1_WordAdds.loop4 v0 v1 v2 v3 (fun e0 => K .ret (pack law1_WordAdds.X4_ret ((e0, ()), (())))) (K (.exit 4) (pack law1_WordAdds.X4_exit4 ((), ())))
def law1_WordAdds.rnd4 : FrV law1_WordAdds.T4.fr × StV law1_WordAdds.T4.st → (FrV law1_WordAdds.T4.fr × StV law1_WordAdds.T4.st → Option (List DVal)) → (Ex → S → Option (List DVal)) → Option (List DVal) := fun ((v0, v1, v2, v3, ()), (())) next K => law1_WordAdds.round4 v0 v1 v2 v3 (fun w0 w1 w2 w3 => next ((w0, w1, w2, w3, ()), (()))) (fun e0 => K .ret (pack law1_WordAdds.X4_ret ((e0, ()), (())))) (K (.exit 4) (pack law1_WordAdds.X4_exit4 ((), ())))
def law1_WordAdds.L : Nat → Option Sum := fun i => if i = 2 then some (sumOf law1_WordAdds.T2 law1_WordAdds.sum2) else if i = 0 then some (sumOf law1_WordAdds.T0 law1_WordAdds.sum0) else if i = 4 then some (sumOf law1_WordAdds.T4 law1_WordAdds.sum4) else if i = 2000011 then some (sumOf law1_WordAdds.T2000011 law1_WordAdds.sum2000011) else if i = 2000020 then some (sumOf law1_WordAdds.T2000020 law1_WordAdds.sum2000020) else none
theorem law1_WordAdds.rnd2_eq : ∀ v (r : S → Option (List DVal)) (K : Ex → S → Option (List DVal)), exec Try.prog law1_WordAdds.C law1_WordAdds.env law1_WordAdds.L 2 (loopOf Try.f7 2) (pack law1_WordAdds.T2 v) (fun e s' => match e with | .normal => r (trim law1_WordAdds.C 2 s') | e => K e (trim law1_WordAdds.C (2 + 1000000) s')) = law1_WordAdds.rnd2 v (fun v' => r (pack law1_WordAdds.T2 v')) K :=
  fun ((v0, v1, v2, v3, v4, v5, v6, v7, v8, v9, v10, ()), (())) r K => by kernel_rfl
theorem law1_WordAdds.lp2 (K : Ex → S → Option (List DVal)) : ∀ (n : Nat) (v0 : Int) (v1 : Int) (v2 : Bool) (v3 : Int) (v4 : Int) (v5 : List Int) (v6 : Int) (v7 : Int) (v8 : List Int) (v9 : Int) (v10 : Int), lp (fun v next => law1_WordAdds.rnd2 v next K) n ((v0, v1, v2, v3, v4, v5, v6, v7, v8, v9, v10, ()), (())) = lp (law1_WordAdds.R2 (fun e0 e1 e2 e3 e4 e5 e6 e7 => K .ret (pack law1_WordAdds.X2_ret ((e0, e1, e2, e3, e4, e5, e6, e7, ()), (())))) (fun e0 e1 e2 e3 e4 e5 e6 => K (.exit 2) (pack law1_WordAdds.X2_exit2 ((e0, e1, e2, e3, e4, e5, e6, ()), (()))))) n (v0, v1, v2, v3, v4, v5, v6, v7, v8, v9, v10) := by
  intro n
  induction n with
  | zero => intros; rfl
  | succ n ih =>
    intro v0 v1 v2 v3 v4 v5 v6 v7 v8 v9 v10
    show law1_WordAdds.round2 v0 v1 v2 v3 v4 v5 v6 v7 v8 v9 v10 (fun w0 w1 w2 w3 w4 w5 w6 w7 w8 w9 w10 => lp (fun v next => law1_WordAdds.rnd2 v next K) n ((w0, w1, w2, w3, w4, w5, w6, w7, w8, w9, w10, ()), (()))) (fun e0 e1 e2 e3 e4 e5 e6 e7 => K .ret (pack law1_WordAdds.X2_ret ((e0, e1, e2, e3, e4, e5, e6, e7, ()), (())))) (fun e0 e1 e2 e3 e4 e5 e6 => K (.exit 2) (pack law1_WordAdds.X2_exit2 ((e0, e1, e2, e3, e4, e5, e6, ()), (())))) = law1_WordAdds.round2 v0 v1 v2 v3 v4 v5 v6 v7 v8 v9 v10 (fun w0 w1 w2 w3 w4 w5 w6 w7 w8 w9 w10 => lp (law1_WordAdds.R2 (fun e0 e1 e2 e3 e4 e5 e6 e7 => K .ret (pack law1_WordAdds.X2_ret ((e0, e1, e2, e3, e4, e5, e6, e7, ()), (())))) (fun e0 e1 e2 e3 e4 e5 e6 => K (.exit 2) (pack law1_WordAdds.X2_exit2 ((e0, e1, e2, e3, e4, e5, e6, ()), (()))))) n (w0, w1, w2, w3, w4, w5, w6, w7, w8, w9, w10)) (fun e0 e1 e2 e3 e4 e5 e6 e7 => K .ret (pack law1_WordAdds.X2_ret ((e0, e1, e2, e3, e4, e5, e6, e7, ()), (())))) (fun e0 e1 e2 e3 e4 e5 e6 => K (.exit 2) (pack law1_WordAdds.X2_exit2 ((e0, e1, e2, e3, e4, e5, e6, ()), (()))))
    simp only [ih]
theorem law1_WordAdds.sum2_ok : SumOk Try.prog law1_WordAdds.C law1_WordAdds.env law1_WordAdds.L 2 (loopOf Try.f7 2) := sumOk_lp (T := law1_WordAdds.T2) (rnd := law1_WordAdds.rnd2) (f := law1_WordAdds.sum2) rfl law1_WordAdds.rnd2_eq fun ((v0, v1, v2, v3, v4, v5, v6, v7, v8, v9, v10, ()), (())) K r h => by
  obtain ⟨n, hn⟩ := law1_WordAdds.loop2_ok v0 v1 v2 v3 v4 v5 v6 v7 v8 v9 v10 (fun e0 e1 e2 e3 e4 e5 e6 e7 => K .ret (pack law1_WordAdds.X2_ret ((e0, e1, e2, e3, e4, e5, e6, e7, ()), (())))) (fun e0 e1 e2 e3 e4 e5 e6 => K (.exit 2) (pack law1_WordAdds.X2_exit2 ((e0, e1, e2, e3, e4, e5, e6, ()), (())))) r h
  exact ⟨n, by rw [law1_WordAdds.lp2]; exact hn⟩
theorem law1_WordAdds.rnd0_eq : ∀ v (r : S → Option (List DVal)) (K : Ex → S → Option (List DVal)), exec Try.prog law1_WordAdds.C law1_WordAdds.env law1_WordAdds.L 0 (loopOf Try.f7 0) (pack law1_WordAdds.T0 v) (fun e s' => match e with | .normal => r (trim law1_WordAdds.C 0 s') | e => K e (trim law1_WordAdds.C (0 + 1000000) s')) = law1_WordAdds.rnd0 v (fun v' => r (pack law1_WordAdds.T0 v')) K :=
  fun ((v0, v1, v2, v3, v4, v5, v6, ()), (())) r K => by kernel_rfl
theorem law1_WordAdds.lp0 (K : Ex → S → Option (List DVal)) : ∀ (n : Nat) (v0 : Int) (v1 : Int) (v2 : Bool) (v3 : Int) (v4 : List Int) (v5 : Int) (v6 : Int), lp (fun v next => law1_WordAdds.rnd0 v next K) n ((v0, v1, v2, v3, v4, v5, v6, ()), (())) = lp (law1_WordAdds.R0 (fun e0 e1 e2 e3 => K .ret (pack law1_WordAdds.X0_ret ((e0, e1, e2, e3, ()), (())))) (fun e0 e1 e2 => K (.exit 0) (pack law1_WordAdds.X0_exit0 ((e0, e1, e2, ()), (()))))) n (v0, v1, v2, v3, v4, v5, v6) := by
  intro n
  induction n with
  | zero => intros; rfl
  | succ n ih =>
    intro v0 v1 v2 v3 v4 v5 v6
    show law1_WordAdds.round0 v0 v1 v2 v3 v4 v5 v6 (fun w0 w1 w2 w3 w4 w5 w6 => lp (fun v next => law1_WordAdds.rnd0 v next K) n ((w0, w1, w2, w3, w4, w5, w6, ()), (()))) (fun e0 e1 e2 e3 => K .ret (pack law1_WordAdds.X0_ret ((e0, e1, e2, e3, ()), (())))) (fun e0 e1 e2 => K (.exit 0) (pack law1_WordAdds.X0_exit0 ((e0, e1, e2, ()), (())))) = law1_WordAdds.round0 v0 v1 v2 v3 v4 v5 v6 (fun w0 w1 w2 w3 w4 w5 w6 => lp (law1_WordAdds.R0 (fun e0 e1 e2 e3 => K .ret (pack law1_WordAdds.X0_ret ((e0, e1, e2, e3, ()), (())))) (fun e0 e1 e2 => K (.exit 0) (pack law1_WordAdds.X0_exit0 ((e0, e1, e2, ()), (()))))) n (w0, w1, w2, w3, w4, w5, w6)) (fun e0 e1 e2 e3 => K .ret (pack law1_WordAdds.X0_ret ((e0, e1, e2, e3, ()), (())))) (fun e0 e1 e2 => K (.exit 0) (pack law1_WordAdds.X0_exit0 ((e0, e1, e2, ()), (()))))
    simp only [ih]
theorem law1_WordAdds.sum0_ok : SumOk Try.prog law1_WordAdds.C law1_WordAdds.env law1_WordAdds.L 0 (loopOf Try.f7 0) := sumOk_lp (T := law1_WordAdds.T0) (rnd := law1_WordAdds.rnd0) (f := law1_WordAdds.sum0) rfl law1_WordAdds.rnd0_eq fun ((v0, v1, v2, v3, v4, v5, v6, ()), (())) K r h => by
  obtain ⟨n, hn⟩ := law1_WordAdds.loop0_ok v0 v1 v2 v3 v4 v5 v6 (fun e0 e1 e2 e3 => K .ret (pack law1_WordAdds.X0_ret ((e0, e1, e2, e3, ()), (())))) (fun e0 e1 e2 => K (.exit 0) (pack law1_WordAdds.X0_exit0 ((e0, e1, e2, ()), (())))) r h
  exact ⟨n, by rw [law1_WordAdds.lp0]; exact hn⟩
theorem law1_WordAdds.rnd4_eq : ∀ v (r : S → Option (List DVal)) (K : Ex → S → Option (List DVal)), exec Try.prog law1_WordAdds.C law1_WordAdds.env law1_WordAdds.L 4 (loopOf Try.f7 4) (pack law1_WordAdds.T4 v) (fun e s' => match e with | .normal => r (trim law1_WordAdds.C 4 s') | e => K e (trim law1_WordAdds.C (4 + 1000000) s')) = law1_WordAdds.rnd4 v (fun v' => r (pack law1_WordAdds.T4 v')) K :=
  fun ((v0, v1, v2, v3, ()), (())) r K => by kernel_rfl
theorem law1_WordAdds.lp4 (K : Ex → S → Option (List DVal)) : ∀ (n : Nat) (v0 : Bool) (v1 : List (List Int)) (v2 : Int) (v3 : Int), lp (fun v next => law1_WordAdds.rnd4 v next K) n ((v0, v1, v2, v3, ()), (())) = lp (law1_WordAdds.R4 (fun e0 => K .ret (pack law1_WordAdds.X4_ret ((e0, ()), (())))) (K (.exit 4) (pack law1_WordAdds.X4_exit4 ((), ())))) n (v0, v1, v2, v3) := by
  intro n
  induction n with
  | zero => intros; rfl
  | succ n ih =>
    intro v0 v1 v2 v3
    show law1_WordAdds.round4 v0 v1 v2 v3 (fun w0 w1 w2 w3 => lp (fun v next => law1_WordAdds.rnd4 v next K) n ((w0, w1, w2, w3, ()), (()))) (fun e0 => K .ret (pack law1_WordAdds.X4_ret ((e0, ()), (())))) (K (.exit 4) (pack law1_WordAdds.X4_exit4 ((), ()))) = law1_WordAdds.round4 v0 v1 v2 v3 (fun w0 w1 w2 w3 => lp (law1_WordAdds.R4 (fun e0 => K .ret (pack law1_WordAdds.X4_ret ((e0, ()), (())))) (K (.exit 4) (pack law1_WordAdds.X4_exit4 ((), ())))) n (w0, w1, w2, w3)) (fun e0 => K .ret (pack law1_WordAdds.X4_ret ((e0, ()), (())))) (K (.exit 4) (pack law1_WordAdds.X4_exit4 ((), ())))
    simp only [ih]
theorem law1_WordAdds.sum4_ok : SumOk Try.prog law1_WordAdds.C law1_WordAdds.env law1_WordAdds.L 4 (loopOf Try.f7 4) := sumOk_lp (T := law1_WordAdds.T4) (rnd := law1_WordAdds.rnd4) (f := law1_WordAdds.sum4) rfl law1_WordAdds.rnd4_eq fun ((v0, v1, v2, v3, ()), (())) K r h => by
  obtain ⟨n, hn⟩ := law1_WordAdds.loop4_ok v0 v1 v2 v3 (fun e0 => K .ret (pack law1_WordAdds.X4_ret ((e0, ()), (())))) (K (.exit 4) (pack law1_WordAdds.X4_exit4 ((), ()))) r h
  exact ⟨n, by rw [law1_WordAdds.lp4]; exact hn⟩
theorem law1_WordAdds.x2000011 : ∀ v (K : Ex → S → Option (List DVal)), exec1 Try.prog law1_WordAdds.C law1_WordAdds.env law1_WordAdds.L (spotOf Try.f7 2000011).2.1 (spotOf Try.f7 2000011).2.2 (pack law1_WordAdds.T2000011 v) (fun e s' => K e (trim law1_WordAdds.C (2000011 + 10000000) s')) = (fun (((v0, v1, v2, v3, v4, v5, v6, v7, v8, v9, v10, v11, v12, v13, v14, ()), (())) : FrV law1_WordAdds.T2000011.fr × StV law1_WordAdds.T2000011.st) => law1_WordAdds.o2000011 v0 v1 v2 v3 v4 v5 v6 v7 v8 v9 v10 v11 v12 v13 v14 (fun e0 e1 e2 e3 e4 e5 e6 e7 e8 e9 e10 e11 => K .normal (pack law1_WordAdds.X2000011_normal ((e0, e1, e2, e3, e4, e5, e6, e7, e8, e9, e10, e11, ()), (()))))) v :=
  fun ((v0, v1, v2, v3, v4, v5, v6, v7, v8, v9, v10, v11, v12, v13, v14, ()), (())) K => by kernel_rfl
theorem law1_WordAdds.sum2000011_ok : SpotOk Try.prog law1_WordAdds.C law1_WordAdds.env law1_WordAdds.L (spotOf Try.f7 2000011) := spotOk_of (T := law1_WordAdds.T2000011) (q := 2000011) (f := law1_WordAdds.sum2000011) (by kernel_rfl) (by kernel_rfl) fun ((v0, v1, v2, v3, v4, v5, v6, v7, v8, v9, v10, v11, v12, v13, v14, ()), (())) K r h => (law1_WordAdds.x2000011 _ K).trans ((law1_WordAdds.s2000011_eq v0 v1 v2 v3 v4 v5 v6 v7 v8 v9 v10 v11 v12 v13 v14 (fun e0 e1 e2 e3 e4 e5 e6 e7 e8 e9 e10 e11 => K .normal (pack law1_WordAdds.X2000011_normal ((e0, e1, e2, e3, e4, e5, e6, e7, e8, e9, e10, e11, ()), (()))))).symm.trans h)
theorem law1_WordAdds.x2000020 : ∀ v (K : Ex → S → Option (List DVal)), exec1 Try.prog law1_WordAdds.C law1_WordAdds.env law1_WordAdds.L (spotOf Try.f7 2000020).2.1 (spotOf Try.f7 2000020).2.2 (pack law1_WordAdds.T2000020 v) (fun e s' => K e (trim law1_WordAdds.C (2000020 + 10000000) s')) = (fun (((v0, v1, v2, v3, v4, v5, v6, v7, v8, v9, ()), (())) : FrV law1_WordAdds.T2000020.fr × StV law1_WordAdds.T2000020.st) => law1_WordAdds.o2000020 v0 v1 v2 v3 v4 v5 v6 v7 v8 v9 (fun e0 e1 e2 e3 e4 => K .normal (pack law1_WordAdds.X2000020_normal ((e0, e1, e2, e3, e4, ()), (()))))) v :=
  fun ((v0, v1, v2, v3, v4, v5, v6, v7, v8, v9, ()), (())) K => by kernel_rfl
theorem law1_WordAdds.sum2000020_ok : SpotOk Try.prog law1_WordAdds.C law1_WordAdds.env law1_WordAdds.L (spotOf Try.f7 2000020) := spotOk_of (T := law1_WordAdds.T2000020) (q := 2000020) (f := law1_WordAdds.sum2000020) (by kernel_rfl) (by kernel_rfl) fun ((v0, v1, v2, v3, v4, v5, v6, v7, v8, v9, ()), (())) K r h => (law1_WordAdds.x2000020 _ K).trans ((law1_WordAdds.s2000020_eq v0 v1 v2 v3 v4 v5 v6 v7 v8 v9 (fun e0 e1 e2 e3 e4 => K .normal (pack law1_WordAdds.X2000020_normal ((e0, e1, e2, e3, e4, ()), (()))))).symm.trans h)
def law1_WordAdds.tree {R : Type} (a0 : Int) (a1 : Int) (a2 : Bool) (a3 : Int) (a4 : Int) (ret : Bool → Option R) : Option R :=
  law1_WordAdds.loop0 a0 a1 a2 a3 [a4, (0 : Int), (1 : Int), (2 : Int), (3 : Int), (4 : Int), (5 : Int)] (7 : Int) (0 : Int) (fun e0 e1 e2 e3 => ret e3) fun e0 e1 e2 => law1_WordAdds.loop4 e2 [[e0, e1], [e0, bitop BinOp.xor IntKind.u32 (4294967295 : Int) e0], [e0, bitop BinOp.xor IntKind.u32 (4294967295 : Int) e1], [bitop BinOp.or IntKind.u32 e0 (2147483648 : Int), bitop BinOp.or IntKind.u32 e1 (2147483648 : Int)], [bitop BinOp.and IntKind.u32 e0 (2147483647 : Int), bitop BinOp.and IntKind.u32 e1 (2147483647 : Int)]] (5 : Int) (0 : Int) (fun e0 => ret e0) (ret true)
theorem law1_WordAdds.eq (a0 : Int) (a1 : Int) (a2 : Bool) (a3 : Int) (a4 : Int) : body Try.prog law1_WordAdds.C law1_WordAdds.env law1_WordAdds.L Try.f7 [⟨Ty.int IntKind.u32, a0⟩, ⟨Ty.int IntKind.u32, a1⟩, ⟨Ty.bool, a2⟩, ⟨Ty.int IntKind.i64, a3⟩, ⟨Ty.int IntKind.i64, a4⟩] = law1_WordAdds.tree a0 a1 a2 a3 a4 (fun r0 => some ([⟨Ty.bool, r0⟩] : List DVal)) := by kernel_rfl
def law1_WordAdds.pre (a b : Int) (c : Bool) (n k : Int) : Bool := decide (0 ≤ a ∧ a < 4294967296) && decide (0 ≤ b ∧ b < 4294967296)
def law1_WordAdds (a b : Int) (c : Bool) (n k : Int) : Bool := true
theorem law1_WordAdds.nice {R : Type} (a b : Int) (c : Bool) (n k : Int) (hp : law1_WordAdds.pre a b c n k = true) (ret : Bool → Option R) : law1_WordAdds.tree a b c n k ret = ret (law1_WordAdds a b c n k) := by
  unfold law1_WordAdds.pre at hp
  simp only [Bool.and_eq_true, decide_eq_true_eq] at hp
  obtain ⟨ha, hb⟩ := hp
  have ra : ∀ x y : Int, U32 (bitop .and .u32 x y) := fun x y => by rw [and_bv]; exact bv_lt _
  have ro : ∀ x y : Int, U32 (bitop .or .u32 x y) := fun x y => by rw [or_bv]; exact bv_lt _
  have rx : ∀ x y : Int, U32 (bitop .xor .u32 x y) := fun x y => by rw [xor_bv]; exact bv_lt _
  unfold law1_WordAdds.tree law1_WordAdds.loop0
  rw [if_pos ⟨rfl, by decide, by decide, by decide, ha⟩]
  unfold law1_WordAdds.loop4
  dsimp only
  rw [if_pos ⟨rfl, by decide, by decide, by decide, fun x hx => by
    simp only [List.mem_cons, List.not_mem_nil, or_false] at hx
    rcases hx with rfl | rfl | rfl | rfl | rfl
    · exact ⟨ha, hb⟩
    · exact ⟨ha, rx _ _⟩
    · exact ⟨ha, rx _ _⟩
    · exact ⟨ro _ _, ro _ _⟩
    · exact ⟨ra _ _, ra _ _⟩⟩]
  rfl

def law1_WordAdds.ctr : Ctr := ctrOf [Ty.int IntKind.u32, Ty.int IntKind.u32, Ty.bool, Ty.int IntKind.i64, Ty.int IntKind.i64] fun x => .guard (law1_WordAdds.pre (x.1) (x.2.1) (x.2.2.1) (x.2.2.2.1) (x.2.2.2.2.1)) (.ret [⟨Ty.bool, law1_WordAdds (x.1) (x.2.1) (x.2.2.1) (x.2.2.2.1) (x.2.2.2.2.1)⟩])
theorem law1_WordAdds.known : Known Try.prog 7 law1_WordAdds.ctr :=
  known_plain law1_WordAdds.envOk mixed Try.func7 (by kernel_rfl) (by kernel_rfl) (byId (by kernel_rfl : loopIds Try.f7 = [0, 2, 4]) (by intro q hq; simp only [List.mem_cons, List.not_mem_nil, or_false] at hq; rcases hq with rfl | rfl | rfl<;> first | exact law1_WordAdds.sum2_ok | exact law1_WordAdds.sum0_ok | exact law1_WordAdds.sum4_ok)) (bySpot (ids := [2000011, 2000020]) (by kernel_rfl) (by intro q hq; simp only [List.mem_cons, List.not_mem_nil, or_false] at hq; rcases hq with rfl | rfl <;> first | exact law1_WordAdds.sum2000011_ok | exact law1_WordAdds.sum2000020_ok)) fun x rs h => by
    obtain ⟨a0, a1, a2, a3, a4, u⟩ := x
    cases u
    simp only [Cmd.val_guard, Cmd.val_ret] at h
    split at h <;> try (cases h; done)
    rename_i hp
    exact (law1_WordAdds.eq a0 a1 a2 a3 a4).trans ((law1_WordAdds.nice a0 a1 a2 a3 a4 hp (fun r0 => some ([⟨Ty.bool, r0⟩] : List DVal))).trans h)
end
end Go.D.Ytbcjiicaekfjlaa
