import Derived.Test.YtbcjiicaekfjlaaChecked
import Derived.Test.YtbcjiicaekfjlaaDX
import Derived.KernelRfl
import Derived.Test.YtbcjiicaekfjlaaLbits1
import Derived.Test.YtbcjiicaekfjlaaLtimes1
namespace Go.D.Ytbcjiicaekfjlaa
open Go.Proofs
set_option linter.unusedVariables false
set_option linter.unusedSimpArgs false
set_option maxRecDepth 100000
noncomputable section


/-! ### ref1_Rev -/
def ref1_Rev.env : Env := envNil
theorem ref1_Rev.envOk : EnvOk Try.prog ref1_Rev.env := envOk_nil _
def sw (k i : Nat) : Nat := if i / k % 2 = 0 then i + k else i - k
def rv (i : Nat) : Nat := 24 - 8 * (i / 8) + i % 8
theorem lit_a : BitVec.ofInt 32 16711935 = 16711935#32 := rfl
theorem lit_b : BitVec.ofInt 32 4278255360 = 4278255360#32 := rfl
theorem lit_c : BitVec.ofInt 32 1431655765 = 1431655765#32 := rfl
theorem lit_d : BitVec.ofInt 32 858993459 = 858993459#32 := rfl
theorem lit_e : BitVec.ofInt 32 252645135 = 252645135#32 := rfl
theorem lit_f : BitVec.ofInt 32 255 = 255#32 := rfl
theorem bits_eq {r s b : BitVec 32} {f g : Nat → Nat} (hr : ∀ i, i < 32 → r.getLsbD i = b.getLsbD (f i)) (hs : ∀ i, i < 32 → s.getLsbD i = b.getLsbD (g i)) (h : ∀ i, i < 32 → f i = g i) : r = s := by
  apply BitVec.eq_of_getLsbD_eq
  intro i hi
  rw [hr i hi, hs i hi, h i hi]
theorem rev_bits (b : BitVec 32) : ∃ r : BitVec 32, word_Rev (b.toNat : Int) = (r.toNat : Int) ∧ ∀ i, i < 32 → r.getLsbD i = b.getLsbD (rv i) := by
  unfold word_Rev bits_ReverseBytes32
  simp only [shl_bv, shr_bv, and_bv, or_bv, ofInt_bv, lit_a, lit_b, lit_c, lit_d, lit_e, lit_f]
  refine ⟨_, rfl, ?_⟩
  intro i hi
  rcases (by omega : i = 0 ∨ i = 1 ∨ i = 2 ∨ i = 3 ∨ i = 4 ∨ i = 5 ∨ i = 6 ∨ i = 7 ∨ i = 8 ∨ i = 9 ∨ i = 10 ∨ i = 11 ∨ i = 12 ∨ i = 13 ∨ i = 14 ∨ i = 15 ∨ i = 16 ∨ i = 17 ∨ i = 18 ∨ i = 19 ∨ i = 20 ∨ i = 21 ∨ i = 22 ∨ i = 23 ∨ i = 24 ∨ i = 25 ∨ i = 26 ∨ i = 27 ∨ i = 28 ∨ i = 29 ∨ i = 30 ∨ i = 31) with rfl | rfl | rfl | rfl | rfl | rfl | rfl | rfl | rfl | rfl | rfl | rfl | rfl | rfl | rfl | rfl | rfl | rfl | rfl | rfl | rfl | rfl | rfl | rfl | rfl | rfl | rfl | rfl | rfl | rfl | rfl | rfl <;> simp [BitVec.getLsbD_or, BitVec.getLsbD_and, BitVec.getLsbD_shiftLeft, BitVec.getLsbD_ushiftRight, rv, sw]
theorem rev16_bits (b : BitVec 32) : ∃ r : BitVec 32, word_Rev16 (b.toNat : Int) = (r.toNat : Int) ∧ ∀ i, i < 32 → r.getLsbD i = b.getLsbD (sw 8 i) := by
  unfold word_Rev16
  simp only [shl_bv, shr_bv, and_bv, or_bv, ofInt_bv, lit_a, lit_b, lit_c, lit_d, lit_e, lit_f]
  refine ⟨_, rfl, ?_⟩
  intro i hi
  rcases (by omega : i = 0 ∨ i = 1 ∨ i = 2 ∨ i = 3 ∨ i = 4 ∨ i = 5 ∨ i = 6 ∨ i = 7 ∨ i = 8 ∨ i = 9 ∨ i = 10 ∨ i = 11 ∨ i = 12 ∨ i = 13 ∨ i = 14 ∨ i = 15 ∨ i = 16 ∨ i = 17 ∨ i = 18 ∨ i = 19 ∨ i = 20 ∨ i = 21 ∨ i = 22 ∨ i = 23 ∨ i = 24 ∨ i = 25 ∨ i = 26 ∨ i = 27 ∨ i = 28 ∨ i = 29 ∨ i = 30 ∨ i = 31) with rfl | rfl | rfl | rfl | rfl | rfl | rfl | rfl | rfl | rfl | rfl | rfl | rfl | rfl | rfl | rfl | rfl | rfl | rfl | rfl | rfl | rfl | rfl | rfl | rfl | rfl | rfl | rfl | rfl | rfl | rfl | rfl <;> simp [BitVec.getLsbD_or, BitVec.getLsbD_and, BitVec.getLsbD_shiftLeft, BitVec.getLsbD_ushiftRight, rv, sw]
theorem swap_1 (b : BitVec 32) : ∃ r : BitVec 32, bitop .or .u32 (bitop .and .u32 (shr .u32 (b.toNat : Int) 1) 1431655765) (shl .u32 (bitop .and .u32 (b.toNat : Int) 1431655765) 1) = (r.toNat : Int) ∧ ∀ i, i < 32 → r.getLsbD i = b.getLsbD (sw 1 i) := by
  simp only [shl_bv, shr_bv, and_bv, or_bv, ofInt_bv, lit_a, lit_b, lit_c, lit_d, lit_e, lit_f]
  refine ⟨_, rfl, ?_⟩
  intro i hi
  rcases (by omega : i = 0 ∨ i = 1 ∨ i = 2 ∨ i = 3 ∨ i = 4 ∨ i = 5 ∨ i = 6 ∨ i = 7 ∨ i = 8 ∨ i = 9 ∨ i = 10 ∨ i = 11 ∨ i = 12 ∨ i = 13 ∨ i = 14 ∨ i = 15 ∨ i = 16 ∨ i = 17 ∨ i = 18 ∨ i = 19 ∨ i = 20 ∨ i = 21 ∨ i = 22 ∨ i = 23 ∨ i = 24 ∨ i = 25 ∨ i = 26 ∨ i = 27 ∨ i = 28 ∨ i = 29 ∨ i = 30 ∨ i = 31) with rfl | rfl | rfl | rfl | rfl | rfl | rfl | rfl | rfl | rfl | rfl | rfl | rfl | rfl | rfl | rfl | rfl | rfl | rfl | rfl | rfl | rfl | rfl | rfl | rfl | rfl | rfl | rfl | rfl | rfl | rfl | rfl <;> simp [BitVec.getLsbD_or, BitVec.getLsbD_and, BitVec.getLsbD_shiftLeft, BitVec.getLsbD_ushiftRight, rv, sw]
theorem swap_2 (b : BitVec 32) : ∃ r : BitVec 32, bitop .or .u32 (bitop .and .u32 (shr .u32 (b.toNat : Int) 2) 858993459) (shl .u32 (bitop .and .u32 (b.toNat : Int) 858993459) 2) = (r.toNat : Int) ∧ ∀ i, i < 32 → r.getLsbD i = b.getLsbD (sw 2 i) := by
  simp only [shl_bv, shr_bv, and_bv, or_bv, ofInt_bv, lit_a, lit_b, lit_c, lit_d, lit_e, lit_f]
  refine ⟨_, rfl, ?_⟩
  intro i hi
  rcases (by omega : i = 0 ∨ i = 1 ∨ i = 2 ∨ i = 3 ∨ i = 4 ∨ i = 5 ∨ i = 6 ∨ i = 7 ∨ i = 8 ∨ i = 9 ∨ i = 10 ∨ i = 11 ∨ i = 12 ∨ i = 13 ∨ i = 14 ∨ i = 15 ∨ i = 16 ∨ i = 17 ∨ i = 18 ∨ i = 19 ∨ i = 20 ∨ i = 21 ∨ i = 22 ∨ i = 23 ∨ i = 24 ∨ i = 25 ∨ i = 26 ∨ i = 27 ∨ i = 28 ∨ i = 29 ∨ i = 30 ∨ i = 31) with rfl | rfl | rfl | rfl | rfl | rfl | rfl | rfl | rfl | rfl | rfl | rfl | rfl | rfl | rfl | rfl | rfl | rfl | rfl | rfl | rfl | rfl | rfl | rfl | rfl | rfl | rfl | rfl | rfl | rfl | rfl | rfl <;> simp [BitVec.getLsbD_or, BitVec.getLsbD_and, BitVec.getLsbD_shiftLeft, BitVec.getLsbD_ushiftRight, rv, sw]
theorem swap_4 (b : BitVec 32) : ∃ r : BitVec 32, bitop .or .u32 (bitop .and .u32 (shr .u32 (b.toNat : Int) 4) 252645135) (shl .u32 (bitop .and .u32 (b.toNat : Int) 252645135) 4) = (r.toNat : Int) ∧ ∀ i, i < 32 → r.getLsbD i = b.getLsbD (sw 4 i) := by
  simp only [shl_bv, shr_bv, and_bv, or_bv, ofInt_bv, lit_a, lit_b, lit_c, lit_d, lit_e, lit_f]
  refine ⟨_, rfl, ?_⟩
  intro i hi
  rcases (by omega : i = 0 ∨ i = 1 ∨ i = 2 ∨ i = 3 ∨ i = 4 ∨ i = 5 ∨ i = 6 ∨ i = 7 ∨ i = 8 ∨ i = 9 ∨ i = 10 ∨ i = 11 ∨ i = 12 ∨ i = 13 ∨ i = 14 ∨ i = 15 ∨ i = 16 ∨ i = 17 ∨ i = 18 ∨ i = 19 ∨ i = 20 ∨ i = 21 ∨ i = 22 ∨ i = 23 ∨ i = 24 ∨ i = 25 ∨ i = 26 ∨ i = 27 ∨ i = 28 ∨ i = 29 ∨ i = 30 ∨ i = 31) with rfl | rfl | rfl | rfl | rfl | rfl | rfl | rfl | rfl | rfl | rfl | rfl | rfl | rfl | rfl | rfl | rfl | rfl | rfl | rfl | rfl | rfl | rfl | rfl | rfl | rfl | rfl | rfl | rfl | rfl | rfl | rfl <;> simp [BitVec.getLsbD_or, BitVec.getLsbD_and, BitVec.getLsbD_shiftLeft, BitVec.getLsbD_ushiftRight, rv, sw]
theorem rbit_bits (b : BitVec 32) : ∃ r : BitVec 32, word_Rbit (b.toNat : Int) = (r.toNat : Int) ∧ ∀ i, i < 32 → r.getLsbD i = b.getLsbD (31 - i) := by
  obtain ⟨r1, e1, h1⟩ := swap_1 b
  obtain ⟨r2, e2, h2⟩ := swap_2 r1
  obtain ⟨r3, e3, h3⟩ := swap_4 r2
  obtain ⟨r4, e4, h4⟩ := rev_bits r3
  refine ⟨r4, ?_, ?_⟩
  · unfold word_Rbit bits_Reverse32
    rw [e1, e2, e3]
    exact e4
  · intro i hi
    have a1 : ∀ i, i < 32 → rv i < 32 ∧ sw 4 (rv i) < 32 ∧ sw 2 (sw 4 (rv i)) < 32 ∧ sw 1 (sw 2 (sw 4 (rv i))) = 31 - i := by decide
    obtain ⟨b1, b2, b3, b4⟩ := a1 i hi
    rw [h4 i hi, h3 _ b1, h2 _ b2, h1 _ b3, b4]
theorem sign_bits (b : BitVec 32) (n : Int) : ∃ r : BitVec 32, word_Sign (b.toNat : Int) n = (r.toNat : Int) ∧ ∀ i, i < 32 → r.getLsbD i = if i < (word_width n).toNat then b.getLsbD i else b.getLsbD ((word_width n).toNat - 1) := by
  obtain ⟨h0, h1⟩ := width_range n
  unfold word_Sign
  generalize word_width n = k at h0 h1
  have e : IntKind.wrap .i64 (32 - k) = 32 - k := by rw [IntKind.wrap_i64]; omega
  rw [e, shl_bv, ofInt_bv, asr_bv _ (by omega)]
  refine ⟨_, rfl, ?_⟩
  intro i hi
  have hm : (32 - k).toNat = 32 - k.toNat := by omega
  rw [hm, BitVec.getLsbD_sshiftRight, BitVec.msb_eq_getLsbD_last, BitVec.getLsbD_shiftLeft, BitVec.getLsbD_shiftLeft]
  by_cases h : i < k.toNat
  · rw [if_pos h, if_pos (by omega : 32 - k.toNat + i < 32), show 32 - k.toNat + i - (32 - k.toNat) = i by omega, decide_eq_false (by omega : ¬ 32 ≤ i), decide_eq_true (by omega : 32 - k.toNat + i < 32), decide_eq_false (by omega : ¬ 32 - k.toNat + i < 32 - k.toNat)]
    rfl
  · rw [if_neg h, if_neg (by omega : ¬ 32 - k.toNat + i < 32), show 32 - 1 - (32 - k.toNat) = k.toNat - 1 by omega, decide_eq_false (by omega : ¬ 32 ≤ i), decide_eq_true (by omega : 32 - 1 < 32), decide_eq_false (by omega : ¬ 32 - 1 < 32 - k.toNat)]
    rfl
theorem zero_bits (b : BitVec 32) (n : Int) : ∃ r : BitVec 32, word_Zero (b.toNat : Int) n = (r.toNat : Int) ∧ ∀ i, i < 32 → r.getLsbD i = (decide (i < (word_width n).toNat) && b.getLsbD i) := by
  obtain ⟨h0, h1⟩ := width_range n
  unfold word_Zero
  generalize word_width n = k at h0 h1
  have e : IntKind.wrap .i64 (32 - k) = 32 - k := by rw [IntKind.wrap_i64]; omega
  rw [e, shl_bv, ofInt_bv, shr_bv]
  refine ⟨_, rfl, ?_⟩
  intro i hi
  have hm : (32 - k).toNat = 32 - k.toNat := by omega
  rw [hm, BitVec.getLsbD_ushiftRight, BitVec.getLsbD_shiftLeft, show 32 - k.toNat + i - (32 - k.toNat) = i by omega]
  by_cases h : i < k.toNat
  · rw [decide_eq_true h, decide_eq_true (by omega : 32 - k.toNat + i < 32), decide_eq_false (by omega : ¬ 32 - k.toNat + i < 32 - k.toNat)]
    rfl
  · rw [decide_eq_false h, decide_eq_false (by omega : ¬ 32 - k.toNat + i < 32)]
    rfl
def ref1_Rev.C : Cfg := { rows := [], keep := [], adopt := [] }
def ref1_Rev.tree {R : Type} (a0 : Int) (ret : Int → Option R) : Option R :=
  ret (bitop BinOp.or IntKind.u32 (bitop BinOp.or IntKind.u32 (bitop BinOp.or IntKind.u32 (shl IntKind.u32 a0 (24 : Int)) (shl IntKind.u32 (bitop BinOp.and IntKind.u32 (shr IntKind.u32 a0 (8 : Int)) (255 : Int)) (16 : Int))) (shl IntKind.u32 (bitop BinOp.and IntKind.u32 (shr IntKind.u32 a0 (16 : Int)) (255 : Int)) (8 : Int))) (shr IntKind.u32 a0 (24 : Int)))
theorem ref1_Rev.eq (a0 : Int) : body Try.prog ref1_Rev.C ref1_Rev.env noL Try.f39 [⟨Ty.int IntKind.u32, a0⟩] = ref1_Rev.tree a0 (fun r0 => some ([⟨Ty.int IntKind.u32, r0⟩] : List DVal)) := by kernel_rfl
def ref1_Rev (a0 : Int) : Int :=
  bitop BinOp.or IntKind.u32 (bitop BinOp.or IntKind.u32 (bitop BinOp.or IntKind.u32 (shl IntKind.u32 a0 (24 : Int)) (shl IntKind.u32 (bitop BinOp.and IntKind.u32 (shr IntKind.u32 a0 (8 : Int)) (255 : Int)) (16 : Int))) (shl IntKind.u32 (bitop BinOp.and IntKind.u32 (shr IntKind.u32 a0 (16 : Int)) (255 : Int)) (8 : Int))) (shr IntKind.u32 a0 (24 : Int))
theorem ref1_Rev.nice {R : Type} (a0 : Int) (ret : Int → Option R) : ref1_Rev.tree a0 ret = ret (ref1_Rev a0) := by
  unfold ref1_Rev.tree ref1_Rev
  simp only [Bool.apply_cond ret]
def ref1_Rev.ctr : Ctr := ctrOf [Ty.int IntKind.u32] fun x => .ret [⟨Ty.int IntKind.u32, ref1_Rev (x.1)⟩]
theorem ref1_Rev.known : Known Try.prog 39 ref1_Rev.ctr :=
  known_plain ref1_Rev.envOk mixed Try.func39 (by kernel_rfl) (by kernel_rfl) (noLoops (by kernel_rfl)) (noSpots (by kernel_rfl)) fun x rs h => by
    obtain ⟨a0, u⟩ := x
    cases u
    simp only [Cmd.val_ret] at h
    exact (ref1_Rev.eq a0).trans ((ref1_Rev.nice a0 (fun r0 => some ([⟨Ty.int IntKind.u32, r0⟩] : List DVal))).trans h)

/-! ### ref1_Rev16 -/
def ref1_Rev16.env : Env := envNil
theorem ref1_Rev16.envOk : EnvOk Try.prog ref1_Rev16.env := envOk_nil _
theorem rev_ref (b : BitVec 32) : ∃ r : BitVec 32, ref1_Rev (b.toNat : Int) = (r.toNat : Int) ∧ ∀ i, i < 32 → r.getLsbD i = b.getLsbD (rv i) := by
  unfold ref1_Rev
  simp only [shl_bv, shr_bv, and_bv, or_bv, ofInt_bv, lit_a, lit_b, lit_c, lit_d, lit_e, lit_f]
  refine ⟨_, rfl, ?_⟩
  intro i hi
  rcases (by omega : i = 0 ∨ i = 1 ∨ i = 2 ∨ i = 3 ∨ i = 4 ∨ i = 5 ∨ i = 6 ∨ i = 7 ∨ i = 8 ∨ i = 9 ∨ i = 10 ∨ i = 11 ∨ i = 12 ∨ i = 13 ∨ i = 14 ∨ i = 15 ∨ i = 16 ∨ i = 17 ∨ i = 18 ∨ i = 19 ∨ i = 20 ∨ i = 21 ∨ i = 22 ∨ i = 23 ∨ i = 24 ∨ i = 25 ∨ i = 26 ∨ i = 27 ∨ i = 28 ∨ i = 29 ∨ i = 30 ∨ i = 31) with rfl | rfl | rfl | rfl | rfl | rfl | rfl | rfl | rfl | rfl | rfl | rfl | rfl | rfl | rfl | rfl | rfl | rfl | rfl | rfl | rfl | rfl | rfl | rfl | rfl | rfl | rfl | rfl | rfl | rfl | rfl | rfl <;> simp [BitVec.getLsbD_or, BitVec.getLsbD_and, BitVec.getLsbD_shiftLeft, BitVec.getLsbD_ushiftRight, rv, sw]
theorem rev_eq {v : Int} (hv : U32 v) : ref1_Rev v = word_Rev v := by
  obtain ⟨b, rfl⟩ := bv_of hv.1 hv.2
  obtain ⟨r, e, h⟩ := rev_bits b
  obtain ⟨s, f, g⟩ := rev_ref b
  rw [e, f, bits_eq g h fun _ _ => rfl]
def ref1_Rev16.C : Cfg := { rows := [], keep := [], adopt := [] }
def ref1_Rev16.tree {R : Type} (a0 : Int) (ret : Int → Option R) : Option R :=
  ret (bitop BinOp.or IntKind.u32 (bitop BinOp.or IntKind.u32 (bitop BinOp.or IntKind.u32 (shl IntKind.u32 (bitop BinOp.and IntKind.u32 a0 (255 : Int)) (8 : Int)) (bitop BinOp.and IntKind.u32 (shr IntKind.u32 a0 (8 : Int)) (255 : Int))) (shl IntKind.u32 (bitop BinOp.and IntKind.u32 (shr IntKind.u32 a0 (16 : Int)) (255 : Int)) (24 : Int))) (shl IntKind.u32 (shr IntKind.u32 a0 (24 : Int)) (16 : Int)))
theorem ref1_Rev16.eq (a0 : Int) : body Try.prog ref1_Rev16.C ref1_Rev16.env noL Try.f41 [⟨Ty.int IntKind.u32, a0⟩] = ref1_Rev16.tree a0 (fun r0 => some ([⟨Ty.int IntKind.u32, r0⟩] : List DVal)) := by kernel_rfl
def ref1_Rev16 (a0 : Int) : Int :=
  bitop BinOp.or IntKind.u32 (bitop BinOp.or IntKind.u32 (bitop BinOp.or IntKind.u32 (shl IntKind.u32 (bitop BinOp.and IntKind.u32 a0 (255 : Int)) (8 : Int)) (bitop BinOp.and IntKind.u32 (shr IntKind.u32 a0 (8 : Int)) (255 : Int))) (shl IntKind.u32 (bitop BinOp.and IntKind.u32 (shr IntKind.u32 a0 (16 : Int)) (255 : Int)) (24 : Int))) (shl IntKind.u32 (shr IntKind.u32 a0 (24 : Int)) (16 : Int))
theorem ref1_Rev16.nice {R : Type} (a0 : Int) (ret : Int → Option R) : ref1_Rev16.tree a0 ret = ret (ref1_Rev16 a0) := by
  unfold ref1_Rev16.tree ref1_Rev16
  simp only [Bool.apply_cond ret]
def ref1_Rev16.ctr : Ctr := ctrOf [Ty.int IntKind.u32] fun x => .ret [⟨Ty.int IntKind.u32, ref1_Rev16 (x.1)⟩]
theorem ref1_Rev16.known : Known Try.prog 41 ref1_Rev16.ctr :=
  known_plain ref1_Rev16.envOk mixed Try.func41 (by kernel_rfl) (by kernel_rfl) (noLoops (by kernel_rfl)) (noSpots (by kernel_rfl)) fun x rs h => by
    obtain ⟨a0, u⟩ := x
    cases u
    simp only [Cmd.val_ret] at h
    exact (ref1_Rev16.eq a0).trans ((ref1_Rev16.nice a0 (fun r0 => some ([⟨Ty.int IntKind.u32, r0⟩] : List DVal))).trans h)

/-! ### ref1_Zero -/
def ref1_Zero.env : Env := envNil
theorem ref1_Zero.envOk : EnvOk Try.prog ref1_Zero.env := envOk_nil _
theorem rev16_ref (b : BitVec 32) : ∃ r : BitVec 32, ref1_Rev16 (b.toNat : Int) = (r.toNat : Int) ∧ ∀ i, i < 32 → r.getLsbD i = b.getLsbD (sw 8 i) := by
  unfold ref1_Rev16
  simp only [shl_bv, shr_bv, and_bv, or_bv, ofInt_bv, lit_a, lit_b, lit_c, lit_d, lit_e, lit_f]
  refine ⟨_, rfl, ?_⟩
  intro i hi
  rcases (by omega : i = 0 ∨ i = 1 ∨ i = 2 ∨ i = 3 ∨ i = 4 ∨ i = 5 ∨ i = 6 ∨ i = 7 ∨ i = 8 ∨ i = 9 ∨ i = 10 ∨ i = 11 ∨ i = 12 ∨ i = 13 ∨ i = 14 ∨ i = 15 ∨ i = 16 ∨ i = 17 ∨ i = 18 ∨ i = 19 ∨ i = 20 ∨ i = 21 ∨ i = 22 ∨ i = 23 ∨ i = 24 ∨ i = 25 ∨ i = 26 ∨ i = 27 ∨ i = 28 ∨ i = 29 ∨ i = 30 ∨ i = 31) with rfl | rfl | rfl | rfl | rfl | rfl | rfl | rfl | rfl | rfl | rfl | rfl | rfl | rfl | rfl | rfl | rfl | rfl | rfl | rfl | rfl | rfl | rfl | rfl | rfl | rfl | rfl | rfl | rfl | rfl | rfl | rfl <;> simp [BitVec.getLsbD_or, BitVec.getLsbD_and, BitVec.getLsbD_shiftLeft, BitVec.getLsbD_ushiftRight, rv, sw]
theorem rev16_eq {v : Int} (hv : U32 v) : ref1_Rev16 v = word_Rev16 v := by
  obtain ⟨b, rfl⟩ := bv_of hv.1 hv.2
  obtain ⟨r, e, h⟩ := rev16_bits b
  obtain ⟨s, f, g⟩ := rev16_ref b
  rw [e, f, bits_eq g h fun _ _ => rfl]
def ref1_Zero.C : Cfg := { rows := [], keep := [], adopt := [] }
def ref1_Zero.tree {R : Type} (a0 : Int) (a1 : Int) (ret : Int → Option R) : Option R :=
  bif decide ((0 : Int) ≤ iminmax false (iminmax true a1 (1 : Int)) (32 : Int)) then ret (IntKind.wrap IntKind.u32 (bitop BinOp.and IntKind.u64 (IntKind.wrap IntKind.u64 a0) (IntKind.wrap IntKind.u64 (shl IntKind.u64 (1 : Int) (iminmax false (iminmax true a1 (1 : Int)) (32 : Int)) - (1 : Int))))) else none
theorem ref1_Zero.eq (a0 : Int) (a1 : Int) : body Try.prog ref1_Zero.C ref1_Zero.env noL Try.f47 [⟨Ty.int IntKind.u32, a0⟩, ⟨Ty.int IntKind.i64, a1⟩] = ref1_Zero.tree a0 a1 (fun r0 => some ([⟨Ty.int IntKind.u32, r0⟩] : List DVal)) := by kernel_rfl
theorem width_dec (n : Int) : decide ((0 : Int) ≤ word_width n) = true := decide_eq_true (by have := (width_range n).1; omega)
def ref1_Zero (v n : Int) : Int := IntKind.wrap .u32 (bitop .and .u64 (IntKind.wrap .u64 v) (IntKind.wrap .u64 (shl .u64 1 (word_width n) - 1)))
theorem ref1_Zero.nice {R : Type} (v n : Int) (ret : Int → Option R) : ref1_Zero.tree v n ret = ret (ref1_Zero v n) := by
  unfold ref1_Zero.tree
  rw [show iminmax false (iminmax true n 1) 32 = word_width n from rfl, width_dec]
  rfl
theorem wrap64_bv (b : BitVec 64) : IntKind.wrap .u64 (b.toNat : Int) = (b.toNat : Int) := by
  have := b.isLt
  rw [IntKind.wrap_u64]; omega
theorem and64_bv (x y : Int) : bitop .and .u64 x y = ((BitVec.ofInt 64 x &&& BitVec.ofInt 64 y).toNat : Int) := wrap64_bv _
theorem or64_bv (x y : Int) : bitop .or .u64 x y = ((BitVec.ofInt 64 x ||| BitVec.ofInt 64 y).toNat : Int) := wrap64_bv _
theorem xor64_bv (x y : Int) : bitop .xor .u64 x y = ((BitVec.ofInt 64 x ^^^ BitVec.ofInt 64 y).toNat : Int) := wrap64_bv _
theorem w32_bv (b : BitVec 64) : IntKind.wrap .u32 (b.toNat : Int) = ((b.setWidth 32).toNat : Int) := by
  rw [IntKind.wrap_u32, BitVec.toNat_setWidth]; omega
theorem ofInt64_u32 (b : BitVec 32) : BitVec.ofInt 64 (IntKind.wrap .u64 (b.toNat : Int)) = b.setWidth 64 := by
  apply BitVec.eq_of_toNat_eq
  have := b.isLt
  rw [BitVec.toNat_ofInt, BitVec.toNat_setWidth, IntKind.wrap_u64]
  omega
theorem ofInt64_bv (b : BitVec 64) : BitVec.ofInt 64 (b.toNat : Int) = b := by
  rw [BitVec.ofInt_natCast, BitVec.ofNat_toNat, BitVec.setWidth_eq]
theorem mask_k {k : Int} (h0 : 1 ≤ k) (h1 : k ≤ 32) : BitVec.ofInt 64 (IntKind.wrap .u64 (shl .u64 1 k - 1)) = BitVec.ofNat 64 (2 ^ k.toNat - 1) := by
  have hp : 2 ^ k.toNat ≤ 2 ^ 32 := Nat.pow_le_pow_right (by decide) (by omega)
  have h2 : 0 < 2 ^ k.toNat := Nat.two_pow_pos _
  have e : shl .u64 1 k = ((2 ^ k.toNat : Nat) : Int) := by
    show IntKind.wrap .u64 (1 * 2 ^ (min k.toNat 64)) = _
    rw [show min k.toNat 64 = k.toNat by omega, Int.one_mul, show ((2 : Int) ^ k.toNat) = ((2 ^ k.toNat : Nat) : Int) by rw [Int.natCast_pow]; rfl, IntKind.wrap_u64]
    omega
  rw [e, ← BitVec.ofInt_natCast]
  congr 1
  rw [IntKind.wrap_u64]
  omega
theorem mask_bit {k : Nat} (hk : k ≤ 32) {i : Nat} (hi : i < 64) : (BitVec.ofNat 64 (2 ^ k - 1)).getLsbD i = decide (i < k) := by
  rw [BitVec.getLsbD_ofNat, Nat.testBit_two_pow_sub_one, decide_eq_true hi, Bool.true_and]
theorem zero_eq {v : Int} (hv : U32 v) (n : Int) : ref1_Zero v n = word_Zero v n := by
  obtain ⟨b, rfl⟩ := bv_of hv.1 hv.2
  obtain ⟨r, e, h⟩ := zero_bits b n
  obtain ⟨h0, h1⟩ := width_range n
  unfold ref1_Zero
  rw [e, and64_bv, ofInt64_u32, mask_k h0 h1, w32_bv]
  congr 2
  apply BitVec.eq_of_getLsbD_eq
  intro i hi
  rw [h i hi, BitVec.getLsbD_setWidth, BitVec.getLsbD_and, BitVec.getLsbD_setWidth, mask_bit (by omega) (by omega), decide_eq_true hi, decide_eq_true (by omega : i < 64), Bool.true_and, Bool.true_and, Bool.and_comm]
def ref1_Zero.ctr : Ctr := ctrOf [Ty.int IntKind.u32, Ty.int IntKind.i64] fun x => .ret [⟨Ty.int IntKind.u32, ref1_Zero (x.1) (x.2.1)⟩]
theorem ref1_Zero.known : Known Try.prog 47 ref1_Zero.ctr :=
  known_plain ref1_Zero.envOk mixed Try.func47 (by kernel_rfl) (by kernel_rfl) (noLoops (by kernel_rfl)) (noSpots (by kernel_rfl)) fun x rs h => by
    obtain ⟨a0, a1, u⟩ := x
    cases u
    simp only [Cmd.val_ret] at h
    exact (ref1_Zero.eq a0 a1).trans ((ref1_Zero.nice a0 a1 (fun r0 => some ([⟨Ty.int IntKind.u32, r0⟩] : List DVal))).trans h)

/-! ### ref1_Sign -/
def ref1_Sign.env : Env := envCons 47 ref1_Zero.ctr <| envCons 67 ref1_bit.ctr <| envNil
theorem ref1_Sign.envOk : EnvOk Try.prog ref1_Sign.env := envOk_cons ref1_Zero.known (envOk_cons ref1_bit.known (envOk_nil _))
def ref1_Sign.C : Cfg := { rows := [], keep := [], adopt := [] }
def ref1_Sign.tree {R : Type} (a0 : Int) (a1 : Int) (ret : Int → Option R) : Option R :=
  bif ref1_bit.pre (ref1_Zero a0 (iminmax false (iminmax true a1 (1 : Int)) (32 : Int))) (IntKind.wrap IntKind.i64 (iminmax false (iminmax true a1 (1 : Int)) (32 : Int) - (1 : Int))) then bif ref1_bit (ref1_Zero a0 (iminmax false (iminmax true a1 (1 : Int)) (32 : Int))) (IntKind.wrap IntKind.i64 (iminmax false (iminmax true a1 (1 : Int)) (32 : Int) - (1 : Int))) then bif decide ((0 : Int) ≤ iminmax false (iminmax true a1 (1 : Int)) (32 : Int)) then ret (IntKind.wrap IntKind.u32 (bitop BinOp.and IntKind.u64 (bitop BinOp.or IntKind.u64 (IntKind.wrap IntKind.u64 (ref1_Zero a0 (iminmax false (iminmax true a1 (1 : Int)) (32 : Int)))) (bitop BinOp.xor IntKind.u64 (18446744073709551615 : Int) (IntKind.wrap IntKind.u64 (shl IntKind.u64 (1 : Int) (iminmax false (iminmax true a1 (1 : Int)) (32 : Int)) - (1 : Int))))) (4294967295 : Int))) else none else ret (ref1_Zero a0 (iminmax false (iminmax true a1 (1 : Int)) (32 : Int))) else none
theorem ref1_Sign.eq (a0 : Int) (a1 : Int) : body Try.prog ref1_Sign.C ref1_Sign.env noL Try.f45 [⟨Ty.int IntKind.u32, a0⟩, ⟨Ty.int IntKind.i64, a1⟩] = ref1_Sign.tree a0 a1 (fun r0 => some ([⟨Ty.int IntKind.u32, r0⟩] : List DVal)) := by kernel_rfl
theorem width_width (n : Int) : word_width (word_width n) = word_width n := by
  have h := width_range n
  generalize word_width n = k at h
  unfold word_width
  rw [iminmax_min, iminmax_max]
  omega
def ref1_Sign (v n : Int) : Int :=
  bif word_bit (ref1_Zero v (word_width n)) (IntKind.wrap .i64 (word_width n - 1)) then IntKind.wrap .u32 (bitop .and .u64 (bitop .or .u64 (IntKind.wrap .u64 (ref1_Zero v (word_width n))) (bitop .xor .u64 18446744073709551615 (IntKind.wrap .u64 (shl .u64 1 (word_width n) - 1)))) 4294967295) else ref1_Zero v (word_width n)
theorem ref1_Sign.nice {R : Type} (v n : Int) (ret : Int → Option R) : ref1_Sign.tree v n ret = ret (ref1_Sign v n) := by
  have hb : ref1_bit.pre (ref1_Zero v (word_width n)) (IntKind.wrap .i64 (word_width n - 1)) = true := by
    have := width_range n
    refine decide_eq_true ?_
    rw [IntKind.wrap_i64]; omega
  unfold ref1_Sign.tree ref1_Sign
  rw [show iminmax false (iminmax true n 1) 32 = word_width n from rfl, width_dec, hb]
  rw [show ref1_bit (ref1_Zero v (word_width n)) (IntKind.wrap .i64 (word_width n - 1)) = word_bit (ref1_Zero v (word_width n)) (IntKind.wrap .i64 (word_width n - 1)) from rfl]
  cases word_bit (ref1_Zero v (word_width n)) (IntKind.wrap .i64 (word_width n - 1)) <;> rfl
theorem ones64 {i : Nat} (hi : i < 64) : (BitVec.ofInt 64 18446744073709551615).getLsbD i = true := by
  have h : ∀ i, i < 64 → (BitVec.ofInt 64 18446744073709551615).getLsbD i = true := by decide
  exact h i hi
theorem sign_eq {v : Int} (hv : U32 v) (n : Int) : ref1_Sign v n = word_Sign v n := by
  obtain ⟨b, rfl⟩ := bv_of hv.1 hv.2
  obtain ⟨r, e, h⟩ := sign_bits b n
  obtain ⟨z, ez, hz⟩ := zero_bits b (word_width n)
  rw [width_width] at hz
  obtain ⟨h0, h1⟩ := width_range n
  have ew : (IntKind.wrap .i64 (word_width n - 1)).toNat = (word_width n).toNat - 1 := by rw [IntKind.wrap_i64]; omega
  unfold ref1_Sign
  rw [zero_eq hv, ez, e, bit_bv, ew, hz _ (by omega), decide_eq_true (by omega : (word_width n).toNat - 1 < (word_width n).toNat), Bool.true_and, mask_u64, or64_bv, ofInt64_u32, xor64_bv, ofInt64_bv, mask_k h0 h1, w32_bv]
  cases hb : b.getLsbD ((word_width n).toNat - 1) with
  | true =>
    simp only [cond_true]
    congr 2
    apply BitVec.eq_of_getLsbD_eq
    intro i hi
    rw [h i hi, BitVec.getLsbD_setWidth, BitVec.getLsbD_or, BitVec.getLsbD_setWidth, BitVec.getLsbD_xor, ones64 (by omega), mask_bit (by omega) (by omega), hz i hi, hb]
    by_cases hk : i < (word_width n).toNat
    · rw [if_pos hk, decide_eq_true hk, decide_eq_true hi, decide_eq_true (by omega : i < 64)]
      simp
    · rw [if_neg hk, decide_eq_false hk, decide_eq_true hi, decide_eq_true (by omega : i < 64)]
      rfl
  | false =>
    simp only [cond_false]
    congr 2
    apply BitVec.eq_of_getLsbD_eq
    intro i hi
    rw [h i hi, hz i hi, hb]
    by_cases hk : i < (word_width n).toNat
    · rw [if_pos hk, decide_eq_true hk, Bool.true_and]
    · rw [if_neg hk, decide_eq_false hk]
      rfl
def ref1_Sign.ctr : Ctr := ctrOf [Ty.int IntKind.u32, Ty.int IntKind.i64] fun x => .ret [⟨Ty.int IntKind.u32, ref1_Sign (x.1) (x.2.1)⟩]
theorem ref1_Sign.known : Known Try.prog 45 ref1_Sign.ctr :=
  known_plain ref1_Sign.envOk mixed Try.func45 (by kernel_rfl) (by kernel_rfl) (noLoops (by kernel_rfl)) (noSpots (by kernel_rfl)) fun x rs h => by
    obtain ⟨a0, a1, u⟩ := x
    cases u
    simp only [Cmd.val_ret] at h
    exact (ref1_Sign.eq a0 a1).trans ((ref1_Sign.nice a0 a1 (fun r0 => some ([⟨Ty.int IntKind.u32, r0⟩] : List DVal))).trans h)

/-! ### ref1_Revsh -/
def ref1_Revsh.env : Env := envCons 45 ref1_Sign.ctr <| envNil
theorem ref1_Revsh.envOk : EnvOk Try.prog ref1_Revsh.env := envOk_cons ref1_Sign.known (envOk_nil _)
def ref1_Revsh.C : Cfg := { rows := [], keep := [], adopt := [] }
def ref1_Revsh.tree {R : Type} (a0 : Int) (ret : Int → Option R) : Option R :=
  ret (ref1_Sign (bitop BinOp.or IntKind.u32 (shl IntKind.u32 (bitop BinOp.and IntKind.u32 a0 (255 : Int)) (8 : Int)) (bitop BinOp.and IntKind.u32 (shr IntKind.u32 a0 (8 : Int)) (255 : Int))) (16 : Int))
theorem ref1_Revsh.eq (a0 : Int) : body Try.prog ref1_Revsh.C ref1_Revsh.env noL Try.f43 [⟨Ty.int IntKind.u32, a0⟩] = ref1_Revsh.tree a0 (fun r0 => some ([⟨Ty.int IntKind.u32, r0⟩] : List DVal)) := by kernel_rfl
def ref1_Revsh (a0 : Int) : Int :=
  ref1_Sign (bitop BinOp.or IntKind.u32 (shl IntKind.u32 (bitop BinOp.and IntKind.u32 a0 (255 : Int)) (8 : Int)) (bitop BinOp.and IntKind.u32 (shr IntKind.u32 a0 (8 : Int)) (255 : Int))) (16 : Int)
theorem ref1_Revsh.nice {R : Type} (a0 : Int) (ret : Int → Option R) : ref1_Revsh.tree a0 ret = ret (ref1_Revsh a0) := by
  unfold ref1_Revsh.tree ref1_Revsh
  simp only [Bool.apply_cond ret]
def ref1_Revsh.ctr : Ctr := ctrOf [Ty.int IntKind.u32] fun x => .ret [⟨Ty.int IntKind.u32, ref1_Revsh (x.1)⟩]
theorem ref1_Revsh.known : Known Try.prog 43 ref1_Revsh.ctr :=
  known_plain ref1_Revsh.envOk mixed Try.func43 (by kernel_rfl) (by kernel_rfl) (noLoops (by kernel_rfl)) (noSpots (by kernel_rfl)) fun x rs h => by
    obtain ⟨a0, u⟩ := x
    cases u
    simp only [Cmd.val_ret] at h
    exact (ref1_Revsh.eq a0).trans ((ref1_Revsh.nice a0 (fun r0 => some ([⟨Ty.int IntKind.u32, r0⟩] : List DVal))).trans h)

/-! ### ref1_Rbit -/
def ref1_Rbit.env : Env := envNil
theorem ref1_Rbit.envOk : EnvOk Try.prog ref1_Rbit.env := envOk_nil _
theorem low16 (b : BitVec 32) : ∃ r : BitVec 32, bitop .or .u32 (shl .u32 (bitop .and .u32 (b.toNat : Int) 255) 8) (bitop .and .u32 (shr .u32 (b.toNat : Int) 8) 255) = (r.toNat : Int) ∧ ∀ i, i < 16 → r.getLsbD i = b.getLsbD (sw 8 i) := by
  simp only [shl_bv, shr_bv, and_bv, or_bv, ofInt_bv, lit_f]
  refine ⟨_, rfl, ?_⟩
  intro i hi
  rcases (by omega : i = 0 ∨ i = 1 ∨ i = 2 ∨ i = 3 ∨ i = 4 ∨ i = 5 ∨ i = 6 ∨ i = 7 ∨ i = 8 ∨ i = 9 ∨ i = 10 ∨ i = 11 ∨ i = 12 ∨ i = 13 ∨ i = 14 ∨ i = 15) with rfl | rfl | rfl | rfl | rfl | rfl | rfl | rfl | rfl | rfl | rfl | rfl | rfl | rfl | rfl | rfl <;> simp [BitVec.getLsbD_or, BitVec.getLsbD_and, BitVec.getLsbD_shiftLeft, BitVec.getLsbD_ushiftRight, sw]
theorem revsh_eq {v : Int} (hv : U32 v) : ref1_Revsh v = word_Revsh v := by
  obtain ⟨b, rfl⟩ := bv_of hv.1 hv.2
  obtain ⟨r, e, h⟩ := rev16_bits b
  obtain ⟨s, f, g⟩ := low16 b
  unfold ref1_Revsh word_Revsh
  rw [f, e, sign_eq (bv_lt s)]
  obtain ⟨r', e', h'⟩ := sign_bits r 16
  obtain ⟨s', f', g'⟩ := sign_bits s 16
  rw [e', f']
  congr 2
  apply BitVec.eq_of_getLsbD_eq
  intro i hi
  have hw : (word_width 16).toNat = 16 := rfl
  rw [h' i hi, g' i hi, hw]
  by_cases hk : i < 16
  · rw [if_pos hk, if_pos hk, g i hk, h i hi]
  · rw [if_neg hk, if_neg hk, g _ (by decide), h _ (by decide)]
def rb (b : BitVec 32) : Nat → BitVec 32
  | 0 => 0#32
  | n + 1 => (rb b n <<< 1) ||| ((b >>> n) &&& 1#32)
theorem rb_bits (b : BitVec 32) : ∀ n j, j < 32 → (rb b n).getLsbD j = (decide (j < n) && b.getLsbD (n - 1 - j))
  | 0, j, hj => by
    rw [decide_eq_false (by omega : ¬ j < 0)]
    simp [rb]
  | n + 1, j, hj => by
    have h1 : ∀ j, j < 32 → (1#32).getLsbD j = decide (j = 0) := by decide
    rw [rb, BitVec.getLsbD_or, BitVec.getLsbD_shiftLeft, BitVec.getLsbD_and, BitVec.getLsbD_ushiftRight, h1 j hj, decide_eq_true hj]
    by_cases h0 : j = 0
    · subst h0
      rw [decide_eq_true (by omega : (0 : Nat) < 1), decide_eq_true (by omega : 0 < n + 1), decide_eq_true rfl, show n + 1 - 1 - 0 = n + 0 by omega]
      simp
    · rw [decide_eq_false h0, decide_eq_false (by omega : ¬ j < 1), rb_bits b n (j - 1) (by omega), show n + 1 - 1 - j = n - 1 - (j - 1) by omega, show decide (j - 1 < n) = decide (j < n + 1) from decide_eq_decide.mpr (by omega)]
      simp
theorem rbit_rb (b : BitVec 32) : word_Rbit (b.toNat : Int) = ((rb b 32).toNat : Int) := by
  obtain ⟨r, e, h⟩ := rbit_bits b
  rw [e]
  congr 2
  apply BitVec.eq_of_getLsbD_eq
  intro i hi
  rw [h i hi, rb_bits b 32 i hi, decide_eq_true hi, Bool.true_and]
def ref1_Rbit.T0 : Tm := ⟨fill 0 17 [(0, Sl.data (Ty.int IntKind.u32)), (3, Sl.data (Ty.int IntKind.u32)), (4, Sl.data (Ty.int IntKind.i64))], []⟩
def ref1_Rbit.X0_exit0 : Tm := ⟨fill 0 17 [(3, Sl.data (Ty.int IntKind.u32))], []⟩
def ref1_Rbit.round0 {R : Type} (v0 : Int) (v1 : Int) (v2 : Int) (next : Int → Int → Int → Option R) (kexit0 : Int → Option R) : Option R :=
  bif decide (v2 < (32 : Int)) then bif decide ((0 : Int) ≤ v2) then next v0 (bitop BinOp.or IntKind.u32 (shl IntKind.u32 v1 (1 : Int)) (bitop BinOp.and IntKind.u32 (shr IntKind.u32 v0 v2) (1 : Int))) (IntKind.wrap IntKind.i64 (v2 + (1 : Int))) else none else kexit0 v1
def ref1_Rbit.R0 {R : Type} (kexit0 : Int → Option R) : (Int × Int × Int) → ((Int × Int × Int) → Option R) → Option R := fun (v0, v1, v2) next => ref1_Rbit.round0 v0 v1 v2 (fun w0 w1 w2 => next (w0, w1, w2)) kexit0
theorem ref1_Rbit.R0_eq {R : Type} (kexit0 : Int → Option R) (v0 : Int) (v1 : Int) (v2 : Int) (next : (Int × Int × Int) → Option R) : ref1_Rbit.R0 kexit0 (v0, v1, v2) next = ref1_Rbit.round0 v0 v1 v2 (fun w0 w1 w2 => next (w0, w1, w2)) kexit0 := rfl
def ref1_Rbit.loop0 {R : Type} (v0 : Int) (v1 : Int) (v2 : Int) (kexit0 : Int → Option R) : Option R :=
  open Classical in
  if U32 v0 ∧ 0 ≤ v2 ∧ v2 ≤ 32 ∧ v1 = ((rb (BitVec.ofInt 32 v0) v2.toNat).toNat : Int) then kexit0 (word_Rbit v0) else none
theorem ref1_Rbit.loop0_ok {R : Type} (v0 : Int) (v1 : Int) (v2 : Int) (kexit0 : Int → Option R) (r : R) (h : ref1_Rbit.loop0 v0 v1 v2 kexit0 = some r) : ∃ n, lp (ref1_Rbit.R0 kexit0) n (v0, v1, v2) = some r := by
  unfold ref1_Rbit.loop0 at h
  split at h <;> try (cases h; done)
  rename_i hc
  obtain ⟨h1, h2, h3, h4⟩ := hc
  obtain ⟨b, rfl⟩ := bv_of h1.1 h1.2
  rw [ofInt_bv] at h4
  subst h4
  rw [← h]
  refine lp_pass (fun i => ((b.toNat : Int), ((rb b i.toNat).toNat : Int), i)) (n := 32) ?_ ?_ v2 h2 h3
  · intro i i0 i1 next
    rw [ref1_Rbit.R0_eq, ref1_Rbit.round0, decide_eq_true i1, decide_eq_true i0, shl_bv, shr_bv, and_bv, or_bv, ofInt_bv, ofInt_bv, ofInt_bv, ofInt_bv, show IntKind.wrap .i64 (i + 1) = i + 1 by rw [IntKind.wrap_i64]; omega, show (i + 1).toNat = i.toNat + 1 by omega]
    rfl
  · intro next
    rw [ref1_Rbit.R0_eq, ref1_Rbit.round0, decide_eq_false (Int.lt_irrefl _), rbit_rb]
    rfl
def ref1_Rbit.C : Cfg := { rows := [], keep := [(0, [0, 3, 4], []), (1000000, [2, 3], [])], adopt := [] }
def ref1_Rbit.sum0 : FrV ref1_Rbit.T0.fr × StV ref1_Rbit.T0.st → (Ex → S → Option (List DVal)) → Option (List DVal) := fun ((v0, v1, v2, ()), (())) K => ref1_Rbit.loop0 v0 v1 v2 (fun e0 => K (.exit 0) (pack ref1_Rbit.X0_exit0 ((e0, ()), (()))))
def ref1_Rbit.rnd0 : FrV ref1_Rbit.T0.fr × StV ref1_Rbit.T0.st → (FrV ref1_Rbit.T0.fr × StV ref1_Rbit.T0.st → Option (List DVal)) → (Ex → S → Option (List DVal)) → Option (List DVal) := fun ((v0, v1, v2, ()), (())) next K => ref1_Rbit.round0 v0 v1 v2 (fun w0 w1 w2 => next ((w0, w1, w2, ()), (()))) (fun e0 => K (.exit 0) (pack ref1_Rbit.X0_exit0 ((e0, ()), (()))))
def ref1_Rbit.L : Nat → Option Sum := fun i => if i = 0 then some (sumOf ref1_Rbit.T0 ref1_Rbit.sum0) else none
theorem ref1_Rbit.rnd0_eq : ∀ v (r : S → Option (List DVal)) (K : Ex → S → Option (List DVal)), exec Try.prog ref1_Rbit.C ref1_Rbit.env ref1_Rbit.L 0 (loopOf Try.f37 0) (pack ref1_Rbit.T0 v) (fun e s' => match e with | .normal => r (trim ref1_Rbit.C 0 s') | e => K e (trim ref1_Rbit.C (0 + 1000000) s')) = ref1_Rbit.rnd0 v (fun v' => r (pack ref1_Rbit.T0 v')) K :=
  fun ((v0, v1, v2, ()), (())) r K => by kernel_rfl
theorem ref1_Rbit.lp0 (K : Ex → S → Option (List DVal)) : ∀ (n : Nat) (v0 : Int) (v1 : Int) (v2 : Int), lp (fun v next => ref1_Rbit.rnd0 v next K) n ((v0, v1, v2, ()), (())) = lp (ref1_Rbit.R0 (fun e0 => K (.exit 0) (pack ref1_Rbit.X0_exit0 ((e0, ()), (()))))) n (v0, v1, v2) := by
  intro n
  induction n with
  | zero => intros; rfl
  | succ n ih =>
    intro v0 v1 v2
    show ref1_Rbit.round0 v0 v1 v2 (fun w0 w1 w2 => lp (fun v next => ref1_Rbit.rnd0 v next K) n ((w0, w1, w2, ()), (()))) (fun e0 => K (.exit 0) (pack ref1_Rbit.X0_exit0 ((e0, ()), (())))) = ref1_Rbit.round0 v0 v1 v2 (fun w0 w1 w2 => lp (ref1_Rbit.R0 (fun e0 => K (.exit 0) (pack ref1_Rbit.X0_exit0 ((e0, ()), (()))))) n (w0, w1, w2)) (fun e0 => K (.exit 0) (pack ref1_Rbit.X0_exit0 ((e0, ()), (()))))
    simp only [ih]
theorem ref1_Rbit.sum0_ok : SumOk Try.prog ref1_Rbit.C ref1_Rbit.env ref1_Rbit.L 0 (loopOf Try.f37 0) := sumOk_lp (T := ref1_Rbit.T0) (rnd := ref1_Rbit.rnd0) (f := ref1_Rbit.sum0) rfl ref1_Rbit.rnd0_eq fun ((v0, v1, v2, ()), (())) K r h => by
  obtain ⟨n, hn⟩ := ref1_Rbit.loop0_ok v0 v1 v2 (fun e0 => K (.exit 0) (pack ref1_Rbit.X0_exit0 ((e0, ()), (())))) r h
  exact ⟨n, by rw [ref1_Rbit.lp0]; exact hn⟩
def ref1_Rbit.tree {R : Type} (a0 : Int) (ret : Int → Option R) : Option R :=
  ref1_Rbit.loop0 a0 (0 : Int) (0 : Int) fun e0 => ret e0
theorem ref1_Rbit.eq (a0 : Int) : body Try.prog ref1_Rbit.C ref1_Rbit.env ref1_Rbit.L Try.f37 [⟨Ty.int IntKind.u32, a0⟩] = ref1_Rbit.tree a0 (fun r0 => some ([⟨Ty.int IntKind.u32, r0⟩] : List DVal)) := by kernel_rfl
def ref1_Rbit.pre (v : Int) : Bool := decide (0 ≤ v ∧ v < 4294967296)
def ref1_Rbit (v : Int) : Int := word_Rbit v
theorem ref1_Rbit.nice {R : Type} (v : Int) (hp : ref1_Rbit.pre v = true) (ret : Int → Option R) : ref1_Rbit.tree v ret = ret (ref1_Rbit v) := by
  have hv' : 0 ≤ v ∧ v < 4294967296 := of_decide_eq_true hp
  have hv : U32 v := hv'
  unfold ref1_Rbit.tree ref1_Rbit.loop0
  rw [if_pos ⟨hv, by decide, by decide, rfl⟩]
  rfl
def ref1_Rbit.ctr : Ctr := ctrOf [Ty.int IntKind.u32] fun x => .guard (ref1_Rbit.pre (x.1)) (.ret [⟨Ty.int IntKind.u32, ref1_Rbit (x.1)⟩])
theorem ref1_Rbit.known : Known Try.prog 37 ref1_Rbit.ctr :=
  known_plain ref1_Rbit.envOk mixed Try.func37 (by kernel_rfl) (by kernel_rfl) (byId (by kernel_rfl : loopIds Try.f37 = [0]) (by intro q hq; simp only [List.mem_cons, List.not_mem_nil, or_false] at hq; subst hq; first | exact ref1_Rbit.sum0_ok)) (noSpots (by kernel_rfl)) fun x rs h => by
    obtain ⟨a0, u⟩ := x
    cases u
    simp only [Cmd.val_guard, Cmd.val_ret] at h
    split at h <;> try (cases h; done)
    rename_i hp
    exact (ref1_Rbit.eq a0).trans ((ref1_Rbit.nice a0 hp (fun r0 => some ([⟨Ty.int IntKind.u32, r0⟩] : List DVal))).trans h)

/-! ### ref1_Clz -/
def ref1_Clz.env : Env := envCons 67 ref1_bit.ctr <| envNil
theorem ref1_Clz.envOk : EnvOk Try.prog ref1_Clz.env := envOk_cons ref1_bit.known (envOk_nil _)
def LenOk (v : Int) (L : Nat) : Prop := L ≤ 32 ∧ v < ((2 ^ L : Nat) : Int) ∧ (0 < L → ((2 ^ (L - 1) : Nat) : Int) ≤ v)
theorem len_form : ∃ l : List Int, ∀ v, bits_Len32 v = IntKind.wrap .i64 ((bif decide ((bif decide (v ≥ 65536) then shr .u32 v 16 else v) ≥ 256) then IntKind.wrap .i64 ((bif decide (v ≥ 65536) then 16 else 0) + 8) else bif decide (v ≥ 65536) then 16 else 0) + IntKind.wrap .i64 (List.getD l (Int.toNat (IntKind.wrap .u8 (bif decide ((bif decide (v ≥ 65536) then shr .u32 v 16 else v) ≥ 256) then shr .u32 (bif decide (v ≥ 65536) then shr .u32 v 16 else v) 8 else bif decide (v ≥ 65536) then shr .u32 v 16 else v))) 0)) :=
  ⟨_, fun v => by unfold bits_Len32 bits_Len32.tree; rw [u8_guard]; rfl⟩
theorem len_small : ∀ y : Fin 256, ∃ L : Fin 9, bits_Len32 (y.val : Int) = (L.val : Int) ∧ (y.val : Int) < ((2 ^ L.val : Nat) : Int) ∧ (0 < L.val → ((2 ^ (L.val - 1) : Nat) : Int) ≤ (y.val : Int)) := by decide +kernel
theorem len_small' {y : Int} (h0 : 0 ≤ y) (h1 : y < 256) : ∃ L : Nat, L ≤ 8 ∧ bits_Len32 y = (L : Int) ∧ y < ((2 ^ L : Nat) : Int) ∧ (0 < L → ((2 ^ (L - 1) : Nat) : Int) ≤ y) := by
  obtain ⟨L, h⟩ := len_small ⟨y.toNat, by omega⟩
  rw [show (((⟨y.toNat, by omega⟩ : Fin 256).val : Nat) : Int) = y from Int.toNat_of_nonneg h0] at h
  exact ⟨L.val, by omega, h⟩
theorem wrap_wrap (x : Int) : IntKind.wrap .i64 (0 + IntKind.wrap .i64 x) = IntKind.wrap .i64 x := by
  rw [IntKind.wrap_i64, IntKind.wrap_i64]; omega
theorem len_shift {v y : Int} (s : Nat) (hs : s ≤ 24) (hv : v / ((2 ^ s : Nat) : Int) = y) (hy : 256 > y) (y1 : 1 ≤ y) (h : ∀ t : Int, bits_Len32 y = t → 0 ≤ t → t ≤ 8 → bits_Len32 v = t + s) : ∃ L : Nat, bits_Len32 v = (L : Int) ∧ LenOk v L := by
  obtain ⟨L, l1, l2, l3, l4⟩ := len_small' (by omega : 0 ≤ y) hy
  have hp : 0 < 2 ^ s := Nat.two_pow_pos s
  have hL : 0 < L := by
    rcases Nat.eq_zero_or_pos L with rfl | h
    · have : y < 1 := l3
      omega
    · exact h
  have l4' := l4 hL
  refine ⟨L + s, ?_, by omega, ?_, fun _ => ?_⟩
  · rw [h _ l2 (by omega) (by omega)]; omega
  · have e : ((2 ^ (L + s) : Nat) : Int) = ((2 ^ L : Nat) : Int) * ((2 ^ s : Nat) : Int) := by rw [Nat.pow_add, Int.natCast_mul]
    rw [e]
    subst hv
    exact (Int.ediv_lt_iff_lt_mul (by omega)).1 l3
  · have e : ((2 ^ (L + s - 1) : Nat) : Int) = ((2 ^ (L - 1) : Nat) : Int) * ((2 ^ s : Nat) : Int) := by rw [show L + s - 1 = (L - 1) + s by omega, Nat.pow_add, Int.natCast_mul]
    rw [e]
    subst hv
    exact (Int.le_ediv_iff_mul_le (by omega)).1 l4'
theorem len_ok {v : Int} (hv : U32 v) : ∃ L : Nat, bits_Len32 v = (L : Int) ∧ LenOk v L := by
  have bv := hv
  unfold U32 at bv
  obtain ⟨l, hl⟩ := len_form
  have i64 : ∀ x : Int, 0 ≤ x → x < 100 → IntKind.wrap .i64 x = x := fun x _ _ => by rw [IntKind.wrap_i64]; omega
  have small : ∀ y : Int, 0 ≤ y → y < 256 → bits_Len32 y = IntKind.wrap .i64 (List.getD l (Int.toNat (IntKind.wrap .u8 y)) 0) := by
    intro y y0 y1
    rw [hl y, decide_eq_false (by omega : ¬ y ≥ 65536)]
    simp only [cond_false]
    rw [decide_eq_false (by omega : ¬ y ≥ 256)]
    simp only [cond_false]
    exact wrap_wrap _
  by_cases c1 : v < 256
  · obtain ⟨L, l1, l2, l3, l4⟩ := len_small' bv.1 c1
    exact ⟨L, l2, by omega, l3, l4⟩
  · by_cases c2 : v < 65536
    · refine len_shift (y := v / 256) 8 (by decide) rfl (by omega) (by omega) fun t ht t0 t1 => ?_
      rw [small _ (by omega) (by omega)] at ht
      rw [hl v, decide_eq_false (by omega : ¬ v ≥ 65536)]
      simp only [cond_false]
      rw [decide_eq_true (by omega : v ≥ 256)]
      simp only [cond_true]
      rw [shr_u32_8, ht, i64 (0 + 8) (by omega) (by omega), i64 _ (by omega) (by omega)]
      omega
    · by_cases c3 : v < 16777216
      · refine len_shift (y := v / 65536) 16 (by decide) rfl (by omega) (by omega) fun t ht t0 t1 => ?_
        rw [small _ (by omega) (by omega)] at ht
        rw [hl v, decide_eq_true (by omega : v ≥ 65536)]
        simp only [cond_true]
        rw [shr_u32_16, decide_eq_false (by omega : ¬ v / 65536 ≥ 256)]
        simp only [cond_false]
        rw [ht, i64 _ (by omega) (by omega)]
        omega
      · refine len_shift (y := v / 16777216) 24 (by decide) rfl (by omega) (by omega) fun t ht t0 t1 => ?_
        rw [small _ (by omega) (by omega)] at ht
        rw [hl v, decide_eq_true (by omega : v ≥ 65536)]
        simp only [cond_true]
        rw [shr_u32_16, decide_eq_true (by omega : v / 65536 ≥ 256)]
        simp only [cond_true]
        rw [shr_u32_8, show v / 65536 / 256 = v / 16777216 by omega, ht, i64 (16 + 8) (by omega) (by omega), i64 _ (by omega) (by omega)]
        omega
theorem clz_ok {v : Int} (hv : U32 v) : ∃ L : Nat, word_Clz v = 32 - (L : Int) ∧ LenOk v L := by
  obtain ⟨L, h1, h2⟩ := len_ok hv
  refine ⟨L, ?_, h2⟩
  have := h2.1
  unfold word_Clz bits_LeadingZeros32
  rw [h1, IntKind.wrap_i64]
  omega
theorem bit_high {v : Int} (hv : U32 v) {n : Nat} (h : v < ((2 ^ n : Nat) : Int)) : word_bit v (n : Int) = false := by
  obtain ⟨b, rfl⟩ := bv_of hv.1 hv.2
  rw [bit_bv]
  show b.toNat.testBit n = false
  exact Nat.testBit_lt_two_pow (Int.ofNat_lt.1 h)
theorem bit_top {v : Int} (hv : U32 v) {n : Nat} (h0 : ((2 ^ n : Nat) : Int) ≤ v) (h : v < ((2 ^ (n + 1) : Nat) : Int)) : word_bit v (n : Int) = true := by
  obtain ⟨b, rfl⟩ := bv_of hv.1 hv.2
  rw [bit_bv]
  show b.toNat.testBit n = true
  rw [Nat.testBit_eq_decide_div_mod_eq]
  have : b.toNat / 2 ^ n = 1 := by
    apply Nat.div_eq_of_lt_le
    · omega
    · rw [Nat.pow_succ] at h; omega
  rw [this]
  rfl
def ref1_Clz.T2000002 : Tm := ⟨fill 0 16 [(0, Sl.data (Ty.int IntKind.u32)), (3, Sl.data (Ty.int IntKind.i64))], []⟩
def ref1_Clz.X2000002_normal : Tm := ⟨fill 0 16 [(0, Sl.data (Ty.int IntKind.u32)), (3, Sl.data (Ty.int IntKind.i64)), (12, Sl.data Ty.bool)], []⟩
def ref1_Clz.o2000002 {R : Type} (v0 : Int) (v1 : Int) (knormal : Int → Int → Bool → Option R) : Option R :=
  bif decide (v1 < (32 : Int)) then bif ref1_bit.pre v0 (IntKind.wrap IntKind.i64 ((31 : Int) - v1)) then knormal v0 v1 !ref1_bit v0 (IntKind.wrap IntKind.i64 ((31 : Int) - v1)) else none else knormal v0 v1 false
def ref1_Clz.s2000002 {R : Type} (v0 : Int) (v1 : Int) (knormal : Int → Int → Bool → Option R) : Option R :=
  bif !decide (v1 < (32 : Int)) || ref1_bit.pre v0 (IntKind.wrap IntKind.i64 ((31 : Int) - v1)) then knormal v0 v1 (decide (v1 < (32 : Int)) && !ref1_bit v0 (IntKind.wrap IntKind.i64 ((31 : Int) - v1))) else none
theorem ref1_Clz.s2000002_eq {R : Type} (v0 : Int) (v1 : Int) (knormal : Int → Int → Bool → Option R) : ref1_Clz.s2000002 v0 v1 knormal = ref1_Clz.o2000002 v0 v1 knormal := by
  unfold ref1_Clz.s2000002 ref1_Clz.o2000002
  (cases hc : decide (v1 < (32 : Int)) with | false => (first | rfl | simp_all) | true => (cases hc : ref1_bit.pre v0 (IntKind.wrap IntKind.i64 ((31 : Int) - v1)) with | false => (first | rfl | simp_all) | true => (first | rfl | simp_all)))
def ref1_Clz.T0 : Tm := ⟨fill 0 16 [(0, Sl.data (Ty.int IntKind.u32)), (3, Sl.data (Ty.int IntKind.i64))], []⟩
def ref1_Clz.X0_exit0 : Tm := ⟨fill 0 16 [(3, Sl.data (Ty.int IntKind.i64))], []⟩
def ref1_Clz.round0 {R : Type} (v0 : Int) (v1 : Int) (next : Int → Int → Option R) (kexit0 : Int → Option R) : Option R :=
  bif !decide (v1 < (32 : Int)) || ref1_bit.pre v0 (IntKind.wrap IntKind.i64 ((31 : Int) - v1)) then bif decide (v1 < (32 : Int)) && !ref1_bit v0 (IntKind.wrap IntKind.i64 ((31 : Int) - v1)) then next v0 (IntKind.wrap IntKind.i64 (v1 + (1 : Int))) else kexit0 v1 else none
def ref1_Clz.R0 {R : Type} (kexit0 : Int → Option R) : (Int × Int) → ((Int × Int) → Option R) → Option R := fun (v0, v1) next => ref1_Clz.round0 v0 v1 (fun w0 w1 => next (w0, w1)) kexit0
theorem ref1_Clz.R0_eq {R : Type} (kexit0 : Int → Option R) (v0 : Int) (v1 : Int) (next : (Int × Int) → Option R) : ref1_Clz.R0 kexit0 (v0, v1) next = ref1_Clz.round0 v0 v1 (fun w0 w1 => next (w0, w1)) kexit0 := rfl
def ref1_Clz.loop0 {R : Type} (v0 : Int) (v1 : Int) (kexit0 : Int → Option R) : Option R :=
  open Classical in
  if U32 v0 ∧ 0 ≤ v1 ∧ v1 ≤ word_Clz v0 then kexit0 (word_Clz v0) else none
theorem ref1_Clz.loop0_ok {R : Type} (v0 : Int) (v1 : Int) (kexit0 : Int → Option R) (r : R) (h : ref1_Clz.loop0 v0 v1 kexit0 = some r) : ∃ n, lp (ref1_Clz.R0 kexit0) n (v0, v1) = some r := by
  unfold ref1_Clz.loop0 at h
  split at h <;> try (cases h; done)
  rename_i hc
  obtain ⟨h1, h2, h3⟩ := hc
  rw [← h]
  obtain ⟨L, e, l1, l2, l3⟩ := clz_ok h1
  refine lp_pass (fun i => (v0, i)) (n := word_Clz v0) ?_ ?_ v1 h2 h3
  · intro i i0 i1 next
    rw [e] at i1
    obtain ⟨m, hm⟩ : ∃ m : Nat, 31 - i = (m : Int) := ⟨(31 - i).toNat, by omega⟩
    have hp : (2 ^ L : Nat) ≤ 2 ^ m := Nat.pow_le_pow_right (by decide) (by omega)
    have hb : word_bit v0 (m : Int) = false := bit_high h1 (by omega)
    rw [ref1_Clz.R0_eq, ref1_Clz.round0, decide_eq_true (by omega : i < 32), show IntKind.wrap .i64 (31 - i) = (m : Int) by rw [hm, IntKind.wrap_i64]; omega, show ref1_bit.pre v0 (m : Int) = true from decide_eq_true (by omega), show ref1_bit v0 (m : Int) = word_bit v0 (m : Int) from rfl, hb, show IntKind.wrap .i64 (i + 1) = i + 1 by rw [IntKind.wrap_i64]; omega]
    rfl
  · intro next
    rw [ref1_Clz.R0_eq, ref1_Clz.round0]
    rcases Nat.eq_zero_or_pos L with rfl | hL
    · rw [e, decide_eq_false (by omega : ¬ (32 : Int) - ((0 : Nat) : Int) < 32)]
      rfl
    · have hb : word_bit v0 ((L - 1 : Nat) : Int) = true := bit_top h1 (l3 hL) (by rw [show L - 1 + 1 = L by omega]; exact l2)
      rw [e, decide_eq_true (by omega : (32 : Int) - (L : Int) < 32), show IntKind.wrap .i64 (31 - (32 - (L : Int))) = ((L - 1 : Nat) : Int) by rw [IntKind.wrap_i64]; omega, show ref1_bit.pre v0 ((L - 1 : Nat) : Int) = true from decide_eq_true (by omega), show ref1_bit v0 ((L - 1 : Nat) : Int) = word_bit v0 ((L - 1 : Nat) : Int) from rfl, hb]
      rfl
def ref1_Clz.C : Cfg := { rows := [], keep := [(0, [0, 3], []), (1000000, [2, 3], []), (2000002, [0, 3], []), (12000002, [0, 3, 12], [])], adopt := [] }
def ref1_Clz.sum2000002 : FrV ref1_Clz.T2000002.fr × StV ref1_Clz.T2000002.st → (Ex → S → Option (List DVal)) → Option (List DVal) := fun ((v0, v1, ()), (())) K => ref1_Clz.s2000002 v0 v1 (fun e0 e1 e2 => K .normal (pack ref1_Clz.X2000002_normal ((e0, e1, e2, ()), (()))))
def ref1_Clz.sum0 : FrV ref1_Clz.T0.fr × StV ref1_Clz.T0.st → (Ex → S → Option (List DVal)) → Option (List DVal) := fun ((v0, v1, ()), (())) K => ref1_Clz.loop0 v0 v1 (fun e0 => K (.exit 0) (pack ref1_Clz.X0_exit0 ((e0, ()), (()))))
def ref1_Clz.rnd0 : FrV ref1_Clz.T0.fr × StV ref1_Clz.T0.st → (FrV ref1_Clz.T0.fr × StV ref1_Clz.T0.st → Option (List DVal)) → (Ex → S → Option (List DVal)) → Option (List DVal) := fun ((v0, v1, ()), (())) next K => ref1_Clz.round0 v0 v1 (fun w0 w1 => next ((w0, w1, ()), (()))) (fun e0 => K (.exit 0) (pack ref1_Clz.X0_exit0 ((e0, ()), (()))))
def ref1_Clz.L : Nat → Option Sum := fun i => if i = 0 then some (sumOf ref1_Clz.T0 ref1_Clz.sum0) else if i = 2000002 then some (sumOf ref1_Clz.T2000002 ref1_Clz.sum2000002) else none
theorem ref1_Clz.rnd0_eq : ∀ v (r : S → Option (List DVal)) (K : Ex → S → Option (List DVal)), exec Try.prog ref1_Clz.C ref1_Clz.env ref1_Clz.L 0 (loopOf Try.f35 0) (pack ref1_Clz.T0 v) (fun e s' => match e with | .normal => r (trim ref1_Clz.C 0 s') | e => K e (trim ref1_Clz.C (0 + 1000000) s')) = ref1_Clz.rnd0 v (fun v' => r (pack ref1_Clz.T0 v')) K :=
  fun ((v0, v1, ()), (())) r K => by kernel_rfl
theorem ref1_Clz.lp0 (K : Ex → S → Option (List DVal)) : ∀ (n : Nat) (v0 : Int) (v1 : Int), lp (fun v next => ref1_Clz.rnd0 v next K) n ((v0, v1, ()), (())) = lp (ref1_Clz.R0 (fun e0 => K (.exit 0) (pack ref1_Clz.X0_exit0 ((e0, ()), (()))))) n (v0, v1) := by
  intro n
  induction n with
  | zero => intros; rfl
  | succ n ih =>
    intro v0 v1
    show ref1_Clz.round0 v0 v1 (fun w0 w1 => lp (fun v next => ref1_Clz.rnd0 v next K) n ((w0, w1, ()), (()))) (fun e0 => K (.exit 0) (pack ref1_Clz.X0_exit0 ((e0, ()), (())))) = ref1_Clz.round0 v0 v1 (fun w0 w1 => lp (ref1_Clz.R0 (fun e0 => K (.exit 0) (pack ref1_Clz.X0_exit0 ((e0, ()), (()))))) n (w0, w1)) (fun e0 => K (.exit 0) (pack ref1_Clz.X0_exit0 ((e0, ()), (()))))
    simp only [ih]
theorem ref1_Clz.sum0_ok : SumOk Try.prog ref1_Clz.C ref1_Clz.env ref1_Clz.L 0 (loopOf Try.f35 0) := sumOk_lp (T := ref1_Clz.T0) (rnd := ref1_Clz.rnd0) (f := ref1_Clz.sum0) rfl ref1_Clz.rnd0_eq fun ((v0, v1, ()), (())) K r h => by
  obtain ⟨n, hn⟩ := ref1_Clz.loop0_ok v0 v1 (fun e0 => K (.exit 0) (pack ref1_Clz.X0_exit0 ((e0, ()), (())))) r h
  exact ⟨n, by rw [ref1_Clz.lp0]; exact hn⟩
theorem ref1_Clz.x2000002 : ∀ v (K : Ex → S → Option (List DVal)), exec1 Try.prog ref1_Clz.C ref1_Clz.env ref1_Clz.L (spotOf Try.f35 2000002).2.1 (spotOf Try.f35 2000002).2.2 (pack ref1_Clz.T2000002 v) (fun e s' => K e (trim ref1_Clz.C (2000002 + 10000000) s')) = (fun (((v0, v1, ()), (())) : FrV ref1_Clz.T2000002.fr × StV ref1_Clz.T2000002.st) => ref1_Clz.o2000002 v0 v1 (fun e0 e1 e2 => K .normal (pack ref1_Clz.X2000002_normal ((e0, e1, e2, ()), (()))))) v :=
  fun ((v0, v1, ()), (())) K => by kernel_rfl
theorem ref1_Clz.sum2000002_ok : SpotOk Try.prog ref1_Clz.C ref1_Clz.env ref1_Clz.L (spotOf Try.f35 2000002) := spotOk_of (T := ref1_Clz.T2000002) (q := 2000002) (f := ref1_Clz.sum2000002) (by kernel_rfl) (by kernel_rfl) fun ((v0, v1, ()), (())) K r h => (ref1_Clz.x2000002 _ K).trans ((ref1_Clz.s2000002_eq v0 v1 (fun e0 e1 e2 => K .normal (pack ref1_Clz.X2000002_normal ((e0, e1, e2, ()), (()))))).symm.trans h)
def ref1_Clz.tree {R : Type} (a0 : Int) (ret : Int → Option R) : Option R :=
  ref1_Clz.loop0 a0 (0 : Int) fun e0 => ret e0
theorem ref1_Clz.eq (a0 : Int) : body Try.prog ref1_Clz.C ref1_Clz.env ref1_Clz.L Try.f35 [⟨Ty.int IntKind.u32, a0⟩] = ref1_Clz.tree a0 (fun r0 => some ([⟨Ty.int IntKind.i64, r0⟩] : List DVal)) := by kernel_rfl
def ref1_Clz.pre (v : Int) : Bool := decide (0 ≤ v ∧ v < 4294967296)
def ref1_Clz (v : Int) : Int := word_Clz v
theorem ref1_Clz.nice {R : Type} (v : Int) (hp : ref1_Clz.pre v = true) (ret : Int → Option R) : ref1_Clz.tree v ret = ret (ref1_Clz v) := by
  have hv' : 0 ≤ v ∧ v < 4294967296 := of_decide_eq_true hp
  have hv : U32 v := hv'
  obtain ⟨L, e, l1, l2, l3⟩ := clz_ok hv
  unfold ref1_Clz.tree ref1_Clz.loop0
  rw [if_pos ⟨hv, by decide, by omega⟩]
  rfl
def ref1_Clz.ctr : Ctr := ctrOf [Ty.int IntKind.u32] fun x => .guard (ref1_Clz.pre (x.1)) (.ret [⟨Ty.int IntKind.i64, ref1_Clz (x.1)⟩])
theorem ref1_Clz.known : Known Try.prog 35 ref1_Clz.ctr :=
  known_plain ref1_Clz.envOk mixed Try.func35 (by kernel_rfl) (by kernel_rfl) (byId (by kernel_rfl : loopIds Try.f35 = [0]) (by intro q hq; simp only [List.mem_cons, List.not_mem_nil, or_false] at hq; subst hq; first | exact ref1_Clz.sum0_ok)) (bySpot (ids := [2000002]) (by kernel_rfl) (by intro q hq; simp only [List.mem_cons, List.not_mem_nil, or_false] at hq; subst hq; first | exact ref1_Clz.sum2000002_ok)) fun x rs h => by
    obtain ⟨a0, u⟩ := x
    cases u
    simp only [Cmd.val_guard, Cmd.val_ret] at h
    split at h <;> try (cases h; done)
    rename_i hp
    exact (ref1_Clz.eq a0).trans ((ref1_Clz.nice a0 hp (fun r0 => some ([⟨Ty.int IntKind.i64, r0⟩] : List DVal))).trans h)

/-! ### law1_WordTurns -/
def law1_WordTurns.env : Env := envCons 25 law1_known.ctr <| envCons 34 word_Clz.ctr <| envCons 35 ref1_Clz.ctr <| envCons 36 word_Rbit.ctr <| envCons 37 ref1_Rbit.ctr <| envCons 38 word_Rev.ctr <| envCons 39 ref1_Rev.ctr <| envCons 40 word_Rev16.ctr <| envCons 41 ref1_Rev16.ctr <| envCons 42 word_Revsh.ctr <| envCons 43 ref1_Revsh.ctr <| envCons 44 word_Sign.ctr <| envCons 45 ref1_Sign.ctr <| envCons 46 word_Zero.ctr <| envCons 47 ref1_Zero.ctr <| envNil
theorem law1_WordTurns.envOk : EnvOk Try.prog law1_WordTurns.env := envOk_cons law1_known.known (envOk_cons word_Clz.known (envOk_cons ref1_Clz.known (envOk_cons word_Rbit.known (envOk_cons ref1_Rbit.known (envOk_cons word_Rev.known (envOk_cons ref1_Rev.known (envOk_cons word_Rev16.known (envOk_cons ref1_Rev16.known (envOk_cons word_Revsh.known (envOk_cons ref1_Revsh.known (envOk_cons word_Sign.known (envOk_cons ref1_Sign.known (envOk_cons word_Zero.known (envOk_cons ref1_Zero.known (envOk_nil _)))))))))))))))
def law1_WordTurns.T2000006 : Tm := ⟨fill 0 92 [(1, Sl.data (Ty.int IntKind.u32)), (2, Sl.data (Ty.int IntKind.i64)), (8, Sl.data (Ty.int IntKind.u32)), (25, Sl.data (Ty.sl (Ty.int IntKind.u32))), (26, Sl.data (Ty.int IntKind.i64)), (27, Sl.data (Ty.int IntKind.i64))], []⟩
def law1_WordTurns.X2000006_normal : Tm := ⟨fill 0 92 [(1, Sl.data (Ty.int IntKind.u32)), (2, Sl.data (Ty.int IntKind.i64)), (8, Sl.data (Ty.int IntKind.u32)), (25, Sl.data (Ty.sl (Ty.int IntKind.u32))), (26, Sl.data (Ty.int IntKind.i64)), (27, Sl.data (Ty.int IntKind.i64)), (63, Sl.data Ty.bool)], []⟩
def law1_WordTurns.o2000006 {R : Type} (v0 : Int) (v1 : Int) (v2 : Int) (v3 : List Int) (v4 : Int) (v5 : Int) (knormal : Int → Int → Int → (List Int) → Int → Int → Bool → Option R) : Option R :=
  bif ref1_Clz.pre v2 then bif word_Clz v2 != ref1_Clz v2 then knormal v0 v1 v2 v3 v4 v5 true else bif ref1_Rbit.pre v2 then bif word_Rbit v2 != ref1_Rbit v2 then knormal v0 v1 v2 v3 v4 v5 true else bif word_Rev v2 != ref1_Rev v2 then knormal v0 v1 v2 v3 v4 v5 true else bif word_Rev16 v2 != ref1_Rev16 v2 then knormal v0 v1 v2 v3 v4 v5 true else knormal v0 v1 v2 v3 v4 v5 (word_Revsh v2 != ref1_Revsh v2) else none else none
def law1_WordTurns.s2000006 {R : Type} (v0 : Int) (v1 : Int) (v2 : Int) (v3 : List Int) (v4 : Int) (v5 : Int) (knormal : Int → Int → Int → (List Int) → Int → Int → Bool → Option R) : Option R :=
  bif ref1_Clz.pre v2 then bif word_Clz v2 != ref1_Clz v2 || ref1_Rbit.pre v2 then knormal v0 v1 v2 v3 v4 v5 (word_Clz v2 != ref1_Clz v2 || (word_Rbit v2 != ref1_Rbit v2 || (word_Rev v2 != ref1_Rev v2 || (word_Rev16 v2 != ref1_Rev16 v2 || word_Revsh v2 != ref1_Revsh v2)))) else none else none
theorem law1_WordTurns.s2000006_eq {R : Type} (v0 : Int) (v1 : Int) (v2 : Int) (v3 : List Int) (v4 : Int) (v5 : Int) (knormal : Int → Int → Int → (List Int) → Int → Int → Bool → Option R) : law1_WordTurns.s2000006 v0 v1 v2 v3 v4 v5 knormal = law1_WordTurns.o2000006 v0 v1 v2 v3 v4 v5 knormal := by
  unfold law1_WordTurns.s2000006 law1_WordTurns.o2000006
  (cases hc : ref1_Clz.pre v2 with | false => (first | rfl | simp_all) | true => (cases hc : word_Clz v2 != ref1_Clz v2 with | false => (cases hc : ref1_Rbit.pre v2 with | false => (first | rfl | simp_all) | true => (cases hc : word_Rbit v2 != ref1_Rbit v2 with | false => (cases hc : word_Rev v2 != ref1_Rev v2 with | false => (cases hc : word_Rev16 v2 != ref1_Rev16 v2 with | false => (first | rfl | simp_all) | true => (first | rfl | simp_all)) | true => (first | rfl | simp_all)) | true => (first | rfl | simp_all))) | true => (first | rfl | simp_all)))
def law1_WordTurns.T2000011 : Tm := ⟨fill 0 92 [(1, Sl.data (Ty.int IntKind.u32)), (2, Sl.data (Ty.int IntKind.i64)), (8, Sl.data (Ty.int IntKind.u32)), (10, Sl.data (Ty.int IntKind.i64)), (25, Sl.data (Ty.sl (Ty.int IntKind.u32))), (26, Sl.data (Ty.int IntKind.i64)), (27, Sl.data (Ty.int IntKind.i64)), (68, Sl.data (Ty.sl (Ty.int IntKind.i64))), (69, Sl.data (Ty.int IntKind.i64)), (70, Sl.data (Ty.int IntKind.i64))], []⟩
def law1_WordTurns.X2000011_normal : Tm := ⟨fill 0 92 [(1, Sl.data (Ty.int IntKind.u32)), (2, Sl.data (Ty.int IntKind.i64)), (8, Sl.data (Ty.int IntKind.u32)), (25, Sl.data (Ty.sl (Ty.int IntKind.u32))), (26, Sl.data (Ty.int IntKind.i64)), (27, Sl.data (Ty.int IntKind.i64)), (68, Sl.data (Ty.sl (Ty.int IntKind.i64))), (69, Sl.data (Ty.int IntKind.i64)), (70, Sl.data (Ty.int IntKind.i64)), (89, Sl.data Ty.bool)], []⟩
def law1_WordTurns.o2000011 {R : Type} (v0 : Int) (v1 : Int) (v2 : Int) (v3 : Int) (v4 : List Int) (v5 : Int) (v6 : Int) (v7 : List Int) (v8 : Int) (v9 : Int) (knormal : Int → Int → Int → (List Int) → Int → Int → (List Int) → Int → Int → Bool → Option R) : Option R :=
  bif word_Sign v2 v3 != ref1_Sign v2 v3 then knormal v0 v1 v2 v4 v5 v6 v7 v8 v9 true else knormal v0 v1 v2 v4 v5 v6 v7 v8 v9 (word_Zero v2 v3 != ref1_Zero v2 v3)
def law1_WordTurns.s2000011 {R : Type} (v0 : Int) (v1 : Int) (v2 : Int) (v3 : Int) (v4 : List Int) (v5 : Int) (v6 : Int) (v7 : List Int) (v8 : Int) (v9 : Int) (knormal : Int → Int → Int → (List Int) → Int → Int → (List Int) → Int → Int → Bool → Option R) : Option R :=
  knormal v0 v1 v2 v4 v5 v6 v7 v8 v9 (word_Sign v2 v3 != ref1_Sign v2 v3 || word_Zero v2 v3 != ref1_Zero v2 v3)
theorem law1_WordTurns.s2000011_eq {R : Type} (v0 : Int) (v1 : Int) (v2 : Int) (v3 : Int) (v4 : List Int) (v5 : Int) (v6 : Int) (v7 : List Int) (v8 : Int) (v9 : Int) (knormal : Int → Int → Int → (List Int) → Int → Int → (List Int) → Int → Int → Bool → Option R) : law1_WordTurns.s2000011 v0 v1 v2 v3 v4 v5 v6 v7 v8 v9 knormal = law1_WordTurns.o2000011 v0 v1 v2 v3 v4 v5 v6 v7 v8 v9 knormal := by
  unfold law1_WordTurns.s2000011 law1_WordTurns.o2000011
  (cases hc : word_Sign v2 v3 != ref1_Sign v2 v3 with | false => (first | rfl | simp_all) | true => (first | rfl | simp_all))
def law1_WordTurns.T2 : Tm := ⟨fill 0 92 [(1, Sl.data (Ty.int IntKind.u32)), (2, Sl.data (Ty.int IntKind.i64)), (8, Sl.data (Ty.int IntKind.u32)), (25, Sl.data (Ty.sl (Ty.int IntKind.u32))), (26, Sl.data (Ty.int IntKind.i64)), (27, Sl.data (Ty.int IntKind.i64)), (68, Sl.data (Ty.sl (Ty.int IntKind.i64))), (69, Sl.data (Ty.int IntKind.i64)), (70, Sl.data (Ty.int IntKind.i64))], []⟩
def law1_WordTurns.X2_ret : Tm := ⟨fill 0 92 [(1, Sl.data (Ty.int IntKind.u32)), (2, Sl.data (Ty.int IntKind.i64)), (6, Sl.data Ty.bool), (25, Sl.data (Ty.sl (Ty.int IntKind.u32))), (26, Sl.data (Ty.int IntKind.i64)), (27, Sl.data (Ty.int IntKind.i64))], []⟩
def law1_WordTurns.X2_exit2 : Tm := ⟨fill 0 92 [(1, Sl.data (Ty.int IntKind.u32)), (2, Sl.data (Ty.int IntKind.i64)), (25, Sl.data (Ty.sl (Ty.int IntKind.u32))), (26, Sl.data (Ty.int IntKind.i64)), (27, Sl.data (Ty.int IntKind.i64))], []⟩
def law1_WordTurns.round2 {R : Type} (v0 : Int) (v1 : Int) (v2 : Int) (v3 : List Int) (v4 : Int) (v5 : Int) (v6 : List Int) (v7 : Int) (v8 : Int) (next : Int → Int → Int → (List Int) → Int → Int → (List Int) → Int → Int → Option R) (kret : Int → Int → Bool → (List Int) → Int → Int → Option R) (kexit2 : Int → Int → (List Int) → Int → Int → Option R) : Option R :=
  bif decide (v8 < v7) then bif decide ((0 : Int) ≤ v8) && decide (v8 < ↑(List.length v6)) then bif word_Sign v2 (List.getD v6 (Int.toNat v8) (0 : Int)) != ref1_Sign v2 (List.getD v6 (Int.toNat v8) (0 : Int)) || word_Zero v2 (List.getD v6 (Int.toNat v8) (0 : Int)) != ref1_Zero v2 (List.getD v6 (Int.toNat v8) (0 : Int)) then kret v0 v1 false v3 v4 v5 else next v0 v1 v2 v3 v4 v5 v6 v7 (IntKind.wrap IntKind.i64 (v8 + (1 : Int))) else none else kexit2 v0 v1 v3 v4 v5
def law1_WordTurns.R2 {R : Type} (kret : Int → Int → Bool → (List Int) → Int → Int → Option R) (kexit2 : Int → Int → (List Int) → Int → Int → Option R) : (Int × Int × Int × (List Int) × Int × Int × (List Int) × Int × Int) → ((Int × Int × Int × (List Int) × Int × Int × (List Int) × Int × Int) → Option R) → Option R := fun (v0, v1, v2, v3, v4, v5, v6, v7, v8) next => law1_WordTurns.round2 v0 v1 v2 v3 v4 v5 v6 v7 v8 (fun w0 w1 w2 w3 w4 w5 w6 w7 w8 => next (w0, w1, w2, w3, w4, w5, w6, w7, w8)) kret kexit2
theorem law1_WordTurns.R2_eq {R : Type} (kret : Int → Int → Bool → (List Int) → Int → Int → Option R) (kexit2 : Int → Int → (List Int) → Int → Int → Option R) (v0 : Int) (v1 : Int) (v2 : Int) (v3 : List Int) (v4 : Int) (v5 : Int) (v6 : List Int) (v7 : Int) (v8 : Int) (next : (Int × Int × Int × (List Int) × Int × Int × (List Int) × Int × Int) → Option R) : law1_WordTurns.R2 kret kexit2 (v0, v1, v2, v3, v4, v5, v6, v7, v8) next = law1_WordTurns.round2 v0 v1 v2 v3 v4 v5 v6 v7 v8 (fun w0 w1 w2 w3 w4 w5 w6 w7 w8 => next (w0, w1, w2, w3, w4, w5, w6, w7, w8)) kret kexit2 := rfl
def law1_WordTurns.loop2 {R : Type} (v0 : Int) (v1 : Int) (v2 : Int) (v3 : List Int) (v4 : Int) (v5 : Int) (v6 : List Int) (v7 : Int) (v8 : Int) (kret : Int → Int → Bool → (List Int) → Int → Int → Option R) (kexit2 : Int → Int → (List Int) → Int → Int → Option R) : Option R :=
  open Classical in
  if v7 = v6.length ∧ v7 < 4611686018427387904 ∧ 0 ≤ v8 ∧ v8 ≤ v7 ∧ U32 v2 then kexit2 v0 v1 v3 v4 v5 else none
theorem law1_WordTurns.loop2_ok {R : Type} (v0 : Int) (v1 : Int) (v2 : Int) (v3 : List Int) (v4 : Int) (v5 : Int) (v6 : List Int) (v7 : Int) (v8 : Int) (kret : Int → Int → Bool → (List Int) → Int → Int → Option R) (kexit2 : Int → Int → (List Int) → Int → Int → Option R) (r : R) (h : law1_WordTurns.loop2 v0 v1 v2 v3 v4 v5 v6 v7 v8 kret kexit2 = some r) : ∃ n, lp (law1_WordTurns.R2 kret kexit2) n (v0, v1, v2, v3, v4, v5, v6, v7, v8) = some r := by
  unfold law1_WordTurns.loop2 at h
  split at h <;> try (cases h; done)
  rename_i hc
  obtain ⟨h1, h2, h3, h4, h5⟩ := hc
  rw [← h]
  refine lp_pass (fun i => (v0, v1, v2, v3, v4, v5, v6, v7, i)) (n := v7) ?_ ?_ v8 h3 h4
  · intro i i0 i1 next
    rw [law1_WordTurns.R2_eq, law1_WordTurns.round2, decide_eq_true i1, decide_eq_true i0, decide_eq_true (h1 ▸ i1 : i < (v6.length : Int)), sign_eq h5, zero_eq h5, bne_self_eq_false, bne_self_eq_false, wrap_next i0 i1 h2]
    rfl
  · intro next
    rw [law1_WordTurns.R2_eq, law1_WordTurns.round2, decide_eq_false (Int.lt_irrefl _)]
    rfl
def law1_WordTurns.T0 : Tm := ⟨fill 0 92 [(1, Sl.data (Ty.int IntKind.u32)), (2, Sl.data (Ty.int IntKind.i64)), (25, Sl.data (Ty.sl (Ty.int IntKind.u32))), (26, Sl.data (Ty.int IntKind.i64)), (27, Sl.data (Ty.int IntKind.i64))], []⟩
def law1_WordTurns.X0_ret : Tm := ⟨fill 0 92 [(6, Sl.data Ty.bool)], []⟩
def law1_WordTurns.X0_exit0 : Tm := ⟨fill 0 92 [], []⟩
def law1_WordTurns.round0 {R : Type} (v0 : Int) (v1 : Int) (v2 : List Int) (v3 : Int) (v4 : Int) (next : Int → Int → (List Int) → Int → Int → Option R) (kret : Bool → Option R) (kexit0 : Option R) : Option R :=
  bif decide (v4 < v3) then bif decide ((0 : Int) ≤ v4) && decide (v4 < ↑(List.length v2)) then bif ref1_Clz.pre (List.getD v2 (Int.toNat v4) (0 : Int)) then bif word_Clz (List.getD v2 (Int.toNat v4) (0 : Int)) != ref1_Clz (List.getD v2 (Int.toNat v4) (0 : Int)) || ref1_Rbit.pre (List.getD v2 (Int.toNat v4) (0 : Int)) then bif word_Clz (List.getD v2 (Int.toNat v4) (0 : Int)) != ref1_Clz (List.getD v2 (Int.toNat v4) (0 : Int)) || (word_Rbit (List.getD v2 (Int.toNat v4) (0 : Int)) != ref1_Rbit (List.getD v2 (Int.toNat v4) (0 : Int)) || (word_Rev (List.getD v2 (Int.toNat v4) (0 : Int)) != ref1_Rev (List.getD v2 (Int.toNat v4) (0 : Int)) || (word_Rev16 (List.getD v2 (Int.toNat v4) (0 : Int)) != ref1_Rev16 (List.getD v2 (Int.toNat v4) (0 : Int)) || word_Revsh (List.getD v2 (Int.toNat v4) (0 : Int)) != ref1_Revsh (List.getD v2 (Int.toNat v4) (0 : Int))))) then kret false else law1_WordTurns.loop2 v0 v1 (List.getD v2 (Int.toNat v4) (0 : Int)) v2 v3 v4 [v1, IntKind.wrap IntKind.i64 (bitop BinOp.and IntKind.u32 v0 (31 : Int)), (8 : Int), (16 : Int), (32 : Int)] (5 : Int) (0 : Int) (fun e0 e1 e2 e3 e4 e5 => kret e2) fun e0 e1 e2 e3 e4 => next e0 e1 e2 e3 (IntKind.wrap IntKind.i64 (e4 + (1 : Int))) else none else none else none else kexit0
def law1_WordTurns.R0 {R : Type} (kret : Bool → Option R) (kexit0 : Option R) : (Int × Int × (List Int) × Int × Int) → ((Int × Int × (List Int) × Int × Int) → Option R) → Option R := fun (v0, v1, v2, v3, v4) next => law1_WordTurns.round0 v0 v1 v2 v3 v4 (fun w0 w1 w2 w3 w4 => next (w0, w1, w2, w3, w4)) kret kexit0
theorem law1_WordTurns.R0_eq {R : Type} (kret : Bool → Option R) (kexit0 : Option R) (v0 : Int) (v1 : Int) (v2 : List Int) (v3 : Int) (v4 : Int) (next : (Int × Int × (List Int) × Int × Int) → Option R) : law1_WordTurns.R0 kret kexit0 (v0, v1, v2, v3, v4) next = law1_WordTurns.round0 v0 v1 v2 v3 v4 (fun w0 w1 w2 w3 w4 => next (w0, w1, w2, w3, w4)) kret kexit0 := rfl
def law1_WordTurns.loop0 {R : Type} (v0 : Int) (v1 : Int) (v2 : List Int) (v3 : Int) (v4 : Int) (kret : Bool → Option R) (kexit0 : Option R) : Option R :=
  open Classical in
  if v3 = v2.length ∧ v3 < 4611686018427387904 ∧ 0 ≤ v4 ∧ v4 ≤ v3 ∧ (∀ x ∈ v2, U32 x) then kexit0 else none
theorem law1_WordTurns.loop0_ok {R : Type} (v0 : Int) (v1 : Int) (v2 : List Int) (v3 : Int) (v4 : Int) (kret : Bool → Option R) (kexit0 : Option R) (r : R) (h : law1_WordTurns.loop0 v0 v1 v2 v3 v4 kret kexit0 = some r) : ∃ n, lp (law1_WordTurns.R0 kret kexit0) n (v0, v1, v2, v3, v4) = some r := by
  unfold law1_WordTurns.loop0 at h
  split at h <;> try (cases h; done)
  rename_i hc
  obtain ⟨h1, h2, h3, h4, h5⟩ := hc
  rw [← h]
  refine lp_pass (fun i => (v0, v1, v2, v3, i)) (n := v3) ?_ ?_ v4 h3 h4
  · intro i i0 i1 next
    obtain ⟨x, hx, hd⟩ := getD_at (d := (0 : Int)) i0 (h1 ▸ i1)
    have hu : U32 x := h5 x (by
      have : x ∈ v2.drop i.toNat := by rw [hd]; simp
      exact List.mem_of_mem_drop this)
    rw [law1_WordTurns.R0_eq, law1_WordTurns.round0, decide_eq_true i1, decide_eq_true i0, decide_eq_true (h1 ▸ i1 : i < (v2.length : Int)), hx, show ref1_Clz.pre x = true from decide_eq_true hu, show ref1_Rbit.pre x = true from decide_eq_true hu, show ref1_Clz x = word_Clz x from rfl, show ref1_Rbit x = word_Rbit x from rfl, rev_eq hu, rev16_eq hu, revsh_eq hu, bne_self_eq_false, bne_self_eq_false, bne_self_eq_false, bne_self_eq_false, bne_self_eq_false, law1_WordTurns.loop2, if_pos ⟨rfl, by decide, by decide, by decide, hu⟩, wrap_next i0 i1 h2]
    rfl
  · intro next
    rw [law1_WordTurns.R0_eq, law1_WordTurns.round0, decide_eq_false (Int.lt_irrefl _)]
    rfl
def law1_WordTurns.C : Cfg := { rows := [], keep := [(2, [1, 2, 8, 25, 26, 27, 68, 69, 70], []), (1000002, [1, 2, 6, 25, 26, 27], []), (0, [1, 2, 25, 26, 27], []), (1000000, [6], []), (2000006, [1, 2, 8, 25, 26, 27], []), (12000006, [1, 2, 8, 25, 26, 27, 63], []), (2000011, [1, 2, 8, 10, 25, 26, 27, 68, 69, 70], []), (12000011, [1, 2, 8, 25, 26, 27, 68, 69, 70, 89], [])], adopt := [] }
def law1_WordTurns.sum2000006 : FrV law1_WordTurns.T2000006.fr × StV law1_WordTurns.T2000006.st → (Ex → S → Option (List DVal)) → Option (List DVal) := fun ((v0, v1, v2, v3, v4, v5, ()), (())) K => law1_WordTurns.s2000006 v0 v1 v2 v3 v4 v5 (fun e0 e1 e2 e3 e4 e5 e6 => K .normal (pack law1_WordTurns.X2000006_normal ((e0, e1, e2, e3, e4, e5, e6, ()), (()))))
def law1_WordTurns.sum2000011 : FrV law1_WordTurns.T2000011.fr × StV law1_WordTurns.T2000011.st → (Ex → S → Option (List DVal)) → Option (List DVal) := fun ((v0, v1, v2, v3, v4, v5, v6, v7, v8, v9, ()), (())) K => law1_WordTurns.s2000011 v0 v1 v2 v3 v4 v5 v6 v7 v8 v9 (fun e0 e1 e2 e3 e4 e5 e6 e7 e8 e9 => K .normal (pack law1_WordTurns.X2000011_normal ((e0, e1, e2, e3, e4, e5, e6, e7, e8, e9, ()), (()))))
def law1_WordTurns.sum2 : FrV law1_WordTurns.T2.fr × StV law1_WordTurns.T2.st → (Ex → S → Option (List DVal)) → Option (List DVal) := fun ((v0, v1, v2, v3, v4, v5, v6, v7, v8, ()), (())) K => law1_WordTurns.loop2 v0 v1 v2 v3 v4 v5 v6 v7 v8 (fun e0 e1 e2 e3 e4 e5 => K .ret (pack law1_WordTurns.X2_ret ((e0, e1, e2, e3, e4, e5, ()), (())))) (fun e0 e1 e2 e3 e4 => K (.exit 2) (pack law1_WordTurns.X2_exit2 ((e0, e1, e2, e3, e4, ()), (()))))
def law1_WordTurns.rnd2 : FrV law1_WordTurns.T2.fr × StV law1_WordTurns.T2.st → (FrV law1_WordTurns.T2.fr × StV law1_WordTurns.T2.st → Option (List DVal)) → (Ex → S → Option (List DVal)) → Option (List DVal) := fun ((v0, v1, v2, v3, v4, v5, v6, v7, v8, ()), (())) next K => law1_WordTurns.round2 v0 v1 v2 v3 v4 v5 v6 v7 v8 (fun w0 w1 w2 w3 w4 w5 w6 w7 w8 => next ((w0, w1, w2, w3, w4, w5, w6, w7, w8, ()), (()))) (fun e0 e1 e2 e3 e4 e5 => K .ret (pack law1_WordTurns.X2_ret ((e0, e1, e2, e3, e4, e5, ()), (())))) (fun e0 e1 e2 e3 e4 => K (.exit 2) (pack law1_WordTurns.X2_exit2 ((e0, e1, e2, e3, e4, ()), (()))))
def law1_WordTurns.sum0 : FrV law1_WordTurns.T0.fr × StV law1_WordTurns.T0.st → (Ex → S → Option (List DVal)) → Option (List DVal) := fun ((v0, v1, v2, v3, v4, ()), (())) K => law1_WordTurns.loop0 v0 v1 v2 v3 v4 (fun e0 => K .ret (pack law1_WordTurns.X0_ret ((e0, ()), (())))) (K (.exit 0) (pack law1_WordTurns.X0_exit0 ((), ())))
def law1_WordTurns.rnd0 : FrV law1_WordTurns.T0.fr × StV law1_WordTurns.T0.st → (FrV law1_WordTurns.T0.fr × StV law1_WordTurns.T0.st → Option (List DVal)) → (Ex → S → Option (List DVal)) → Option (List DVal) := fun ((v0, v1, v2, v3, v4, ()), (())) next K => law1_WordTurns.round0 v0 v1 v2 v3 v4 (fun w0 w1 w2 w3 w4 => next ((w0, w1, w2, w3, w4, ()), (()))) (fun e0 => K .ret (pack law1_WordTurns.X0_ret ((e0, ()), (())))) (K (.exit 0) (pack law1_WordTurns.X0_exit0 ((), ())))
def law1_WordTurns.L : Nat → Option Sum := fun i => if i = 2 then some (sumOf law1_WordTurns.T2 law1_WordTurns.sum2) else if i = 0 then some (sumOf law1_WordTurns.T0 law1_WordTurns.sum0) else if i = 2000006 then some (sumOf law1_WordTurns.T2000006 law1_WordTurns.sum2000006) else if i = 2000011 then some (sumOf law1_WordTurns.T2000011 law1_WordTurns.sum2000011) else none
theorem law1_WordTurns.rnd2_eq : ∀ v (r : S → Option (List DVal)) (K : Ex → S → Option (List DVal)), exec Try.prog law1_WordTurns.C law1_WordTurns.env law1_WordTurns.L 2 (loopOf Try.f9 2) (pack law1_WordTurns.T2 v) (fun e s' => match e with | .normal => r (trim law1_WordTurns.C 2 s') | e => K e (trim law1_WordTurns.C (2 + 1000000) s')) = law1_WordTurns.rnd2 v (fun v' => r (pack law1_WordTurns.T2 v')) K :=
  fun ((v0, v1, v2, v3, v4, v5, v6, v7, v8, ()), (())) r K => by kernel_rfl
theorem law1_WordTurns.lp2 (K : Ex → S → Option (List DVal)) : ∀ (n : Nat) (v0 : Int) (v1 : Int) (v2 : Int) (v3 : List Int) (v4 : Int) (v5 : Int) (v6 : List Int) (v7 : Int) (v8 : Int), lp (fun v next => law1_WordTurns.rnd2 v next K) n ((v0, v1, v2, v3, v4, v5, v6, v7, v8, ()), (())) = lp (law1_WordTurns.R2 (fun e0 e1 e2 e3 e4 e5 => K .ret (pack law1_WordTurns.X2_ret ((e0, e1, e2, e3, e4, e5, ()), (())))) (fun e0 e1 e2 e3 e4 => K (.exit 2) (pack law1_WordTurns.X2_exit2 ((e0, e1, e2, e3, e4, ()), (()))))) n (v0, v1, v2, v3, v4, v5, v6, v7, v8) := by
  intro n
  induction n with
  | zero => intros; rfl
  | succ n ih =>
    intro v0 v1 v2 v3 v4 v5 v6 v7 v8
    show law1_WordTurns.round2 v0 v1 v2 v3 v4 v5 v6 v7 v8 (fun w0 w1 w2 w3 w4 w5 w6 w7 w8 => lp (fun v next => law1_WordTurns.rnd2 v next K) n ((w0, w1, w2, w3, w4, w5, w6, w7, w8, ()), (()))) (fun e0 e1 e2 e3 e4 e5 => K .ret (pack law1_WordTurns.X2_ret ((e0, e1, e2, e3, e4, e5, ()), (())))) (fun e0 e1 e2 e3 e4 => K (.exit 2) (pack law1_WordTurns.X2_exit2 ((e0, e1, e2, e3, e4, ()), (())))) = law1_WordTurns.round2 v0 v1 v2 v3 v4 v5 v6 v7 v8 (fun w0 w1 w2 w3 w4 w5 w6 w7 w8 => lp (law1_WordTurns.R2 (fun e0 e1 e2 e3 e4 e5 => K .ret (pack law1_WordTurns.X2_ret ((e0, e1, e2, e3, e4, e5, ()), (())))) (fun e0 e1 e2 e3 e4 => K (.exit 2) (pack law1_WordTurns.X2_exit2 ((e0, e1, e2, e3, e4, ()), (()))))) n (w0, w1, w2, w3, w4, w5, w6, w7, w8)) (fun e0 e1 e2 e3 e4 e5 => K .ret (pack law1_WordTurns.X2_ret ((e0, e1, e2, e3, e4, e5, ()), (())))) (fun e0 e1 e2 e3 e4 => K (.exit 2) (pack law1_WordTurns.X2_exit2 ((e0, e1, e2, e3, e4, ()), (()))))
    simp only [ih]
theorem law1_WordTurns.sum2_ok : SumOk Try.prog law1_WordTurns.C law1_WordTurns.env law1_WordTurns.L 2 (loopOf Try.f9 2) := sumOk_lp (T := law1_WordTurns.T2) (rnd := law1_WordTurns.rnd2) (f := law1_WordTurns.sum2) rfl law1_WordTurns.rnd2_eq fun ((v0, v1, v2, v3, v4, v5, v6, v7, v8, ()), (())) K r h => by
  obtain ⟨n, hn⟩ := law1_WordTurns.loop2_ok v0 v1 v2 v3 v4 v5 v6 v7 v8 (fun e0 e1 e2 e3 e4 e5 => K .ret (pack law1_WordTurns.X2_ret ((e0, e1, e2, e3, e4, e5, ()), (())))) (fun e0 e1 e2 e3 e4 => K (.exit 2) (pack law1_WordTurns.X2_exit2 ((e0, e1, e2, e3, e4, ()), (())))) r h
  exact ⟨n, by rw [law1_WordTurns.lp2]; exact hn⟩
theorem law1_WordTurns.rnd0_eq : ∀ v (r : S → Option (List DVal)) (K : Ex → S → Option (List DVal)), exec Try.prog law1_WordTurns.C law1_WordTurns.env law1_WordTurns.L 0 (loopOf Try.f9 0) (pack law1_WordTurns.T0 v) (fun e s' => match e with | .normal => r (trim law1_WordTurns.C 0 s') | e => K e (trim law1_WordTurns.C (0 + 1000000) s')) = law1_WordTurns.rnd0 v (fun v' => r (pack law1_WordTurns.T0 v')) K :=
  fun ((v0, v1, v2, v3, v4, ()), (())) r K => by kernel_rfl
theorem law1_WordTurns.lp0 (K : Ex → S → Option (List DVal)) : ∀ (n : Nat) (v0 : Int) (v1 : Int) (v2 : List Int) (v3 : Int) (v4 : Int), lp (fun v next => law1_WordTurns.rnd0 v next K) n ((v0, v1, v2, v3, v4, ()), (())) = lp (law1_WordTurns.R0 (fun e0 => K .ret (pack law1_WordTurns.X0_ret ((e0, ()), (())))) (K (.exit 0) (pack law1_WordTurns.X0_exit0 ((), ())))) n (v0, v1, v2, v3, v4) := by
  intro n
  induction n with
  | zero => intros; rfl
  | succ n ih =>
    intro v0 v1 v2 v3 v4
    show law1_WordTurns.round0 v0 v1 v2 v3 v4 (fun w0 w1 w2 w3 w4 => lp (fun v next => law1_WordTurns.rnd0 v next K) n ((w0, w1, w2, w3, w4, ()), (()))) (fun e0 => K .ret (pack law1_WordTurns.X0_ret ((e0, ()), (())))) (K (.exit 0) (pack law1_WordTurns.X0_exit0 ((), ()))) = law1_WordTurns.round0 v0 v1 v2 v3 v4 (fun w0 w1 w2 w3 w4 => lp (law1_WordTurns.R0 (fun e0 => K .ret (pack law1_WordTurns.X0_ret ((e0, ()), (())))) (K (.exit 0) (pack law1_WordTurns.X0_exit0 ((), ())))) n (w0, w1, w2, w3, w4)) (fun e0 => K .ret (pack law1_WordTurns.X0_ret ((e0, ()), (())))) (K (.exit 0) (pack law1_WordTurns.X0_exit0 ((), ())))
    simp only [ih]
theorem law1_WordTurns.sum0_ok : SumOk Try.prog law1_WordTurns.C law1_WordTurns.env law1_WordTurns.L 0 (loopOf Try.f9 0) := sumOk_lp (T := law1_WordTurns.T0) (rnd := law1_WordTurns.rnd0) (f := law1_WordTurns.sum0) rfl law1_WordTurns.rnd0_eq fun ((v0, v1, v2, v3, v4, ()), (())) K r h => by
  obtain ⟨n, hn⟩ := law1_WordTurns.loop0_ok v0 v1 v2 v3 v4 (fun e0 => K .ret (pack law1_WordTurns.X0_ret ((e0, ()), (())))) (K (.exit 0) (pack law1_WordTurns.X0_exit0 ((), ()))) r h
  exact ⟨n, by rw [law1_WordTurns.lp0]; exact hn⟩
theorem law1_WordTurns.x2000006 : ∀ v (K : Ex → S → Option (List DVal)), exec1 Try.prog law1_WordTurns.C law1_WordTurns.env law1_WordTurns.L (spotOf Try.f9 2000006).2.1 (spotOf Try.f9 2000006).2.2 (pack law1_WordTurns.T2000006 v) (fun e s' => K e (trim law1_WordTurns.C (2000006 + 10000000) s')) = (fun (((v0, v1, v2, v3, v4, v5, ()), (())) : FrV law1_WordTurns.T2000006.fr × StV law1_WordTurns.T2000006.st) => law1_WordTurns.o2000006 v0 v1 v2 v3 v4 v5 (fun e0 e1 e2 e3 e4 e5 e6 => K .normal (pack law1_WordTurns.X2000006_normal ((e0, e1, e2, e3, e4, e5, e6, ()), (()))))) v :=
  fun ((v0, v1, v2, v3, v4, v5, ()), (())) K => by kernel_rfl
theorem law1_WordTurns.sum2000006_ok : SpotOk Try.prog law1_WordTurns.C law1_WordTurns.env law1_WordTurns.L (spotOf Try.f9 2000006) := spotOk_of (T := law1_WordTurns.T2000006) (q := 2000006) (f := law1_WordTurns.sum2000006) (by kernel_rfl) (by kernel_rfl) fun ((v0, v1, v2, v3, v4, v5, ()), (())) K r h => (law1_WordTurns.x2000006 _ K).trans ((law1_WordTurns.s2000006_eq v0 v1 v2 v3 v4 v5 (fun e0 e1 e2 e3 e4 e5 e6 => K .normal (pack law1_WordTurns.X2000006_normal ((e0, e1, e2, e3, e4, e5, e6, ()), (()))))).symm.trans h)
theorem law1_WordTurns.x2000011 : ∀ v (K : Ex → S → Option (List DVal)), exec1 Try.prog law1_WordTurns.C law1_WordTurns.env law1_WordTurns.L (spotOf Try.f9 2000011).2.1 (spotOf Try.f9 2000011).2.2 (pack law1_WordTurns.T2000011 v) (fun e s' => K e (trim law1_WordTurns.C (2000011 + 10000000) s')) = (fun (((v0, v1, v2, v3, v4, v5, v6, v7, v8, v9, ()), (())) : FrV law1_WordTurns.T2000011.fr × StV law1_WordTurns.T2000011.st) => law1_WordTurns.o2000011 v0 v1 v2 v3 v4 v5 v6 v7 v8 v9 (fun e0 e1 e2 e3 e4 e5 e6 e7 e8 e9 => K .normal (pack law1_WordTurns.X2000011_normal ((e0, e1, e2, e3, e4, e5, e6, e7, e8, e9, ()), (()))))) v :=
  fun ((v0, v1, v2, v3, v4, v5, v6, v7, v8, v9, ()), (())) K => by kernel_rfl
theorem law1_WordTurns.sum2000011_ok : SpotOk Try.prog law1_WordTurns.C law1_WordTurns.env law1_WordTurns.L (spotOf Try.f9 2000011) := spotOk_of (T := law1_WordTurns.T2000011) (q := 2000011) (f := law1_WordTurns.sum2000011) (by kernel_rfl) (by kernel_rfl) fun ((v0, v1, v2, v3, v4, v5, v6, v7, v8, v9, ()), (())) K r h => (law1_WordTurns.x2000011 _ K).trans ((law1_WordTurns.s2000011_eq v0 v1 v2 v3 v4 v5 v6 v7 v8 v9 (fun e0 e1 e2 e3 e4 e5 e6 e7 e8 e9 => K .normal (pack law1_WordTurns.X2000011_normal ((e0, e1, e2, e3, e4, e5, e6, e7, e8, e9, ()), (()))))).symm.trans h)
def law1_WordTurns.tree {R : Type} (a0 : Int) (a1 : Int) (a2 : Int) (ret : Bool → Option R) : Option R :=
  bif decide ((0 : Int) ≤ bitop BinOp.and IntKind.u32 a1 (31 : Int)) then law1_WordTurns.loop0 a1 a2 [a0, bitop BinOp.and IntKind.u32 a0 (255 : Int), shr IntKind.u32 a0 (bitop BinOp.and IntKind.u32 a1 (31 : Int)), bitop BinOp.xor IntKind.u32 (4294967295 : Int) a0, bitop BinOp.and IntKind.u32 a0 a1] (5 : Int) (0 : Int) (fun e0 => ret e0) (ret true) else none
theorem law1_WordTurns.eq (a0 : Int) (a1 : Int) (a2 : Int) : body Try.prog law1_WordTurns.C law1_WordTurns.env law1_WordTurns.L Try.f9 [⟨Ty.int IntKind.u32, a0⟩, ⟨Ty.int IntKind.u32, a1⟩, ⟨Ty.int IntKind.i64, a2⟩] = law1_WordTurns.tree a0 a1 a2 (fun r0 => some ([⟨Ty.bool, r0⟩] : List DVal)) := by kernel_rfl
def law1_WordTurns.pre (a b n : Int) : Bool := decide (0 ≤ a ∧ a < 4294967296) && decide (0 ≤ b ∧ b < 4294967296)
def law1_WordTurns (a b n : Int) : Bool := true
theorem law1_WordTurns.nice {R : Type} (a b n : Int) (hp : law1_WordTurns.pre a b n = true) (ret : Bool → Option R) : law1_WordTurns.tree a b n ret = ret (law1_WordTurns a b n) := by
  unfold law1_WordTurns.pre at hp
  simp only [Bool.and_eq_true, decide_eq_true_eq] at hp
  obtain ⟨ha, hb⟩ := hp
  have ra : ∀ x y : Int, U32 (bitop .and .u32 x y) := fun x y => by rw [and_bv]; exact bv_lt _
  have rx : ∀ x y : Int, U32 (bitop .xor .u32 x y) := fun x y => by rw [xor_bv]; exact bv_lt _
  have rs : ∀ n : Int, U32 (shr .u32 a n) := fun n => by
    obtain ⟨w, rfl⟩ := bv_of ha.1 ha.2
    rw [shr_bv]; exact bv_lt _
  unfold law1_WordTurns.tree law1_WordTurns.loop0
  rw [decide_eq_true (ra b 31).1]
  rw [if_pos ⟨rfl, by decide, by decide, by decide, fun x hx => by
    simp only [List.mem_cons, List.not_mem_nil, or_false] at hx
    rcases hx with rfl | rfl | rfl | rfl | rfl
    · exact ha
    · exact ra _ _
    · exact rs _
    · exact rx _ _
    · exact ra _ _⟩]
  rfl

def law1_WordTurns.ctr : Ctr := ctrOf [Ty.int IntKind.u32, Ty.int IntKind.u32, Ty.int IntKind.i64] fun x => .guard (law1_WordTurns.pre (x.1) (x.2.1) (x.2.2.1)) (.ret [⟨Ty.bool, law1_WordTurns (x.1) (x.2.1) (x.2.2.1)⟩])
theorem law1_WordTurns.known : Known Try.prog 9 law1_WordTurns.ctr :=
  known_plain law1_WordTurns.envOk mixed Try.func9 (by kernel_rfl) (by kernel_rfl) (byId (by kernel_rfl : loopIds Try.f9 = [0, 2]) (by intro q hq; simp only [List.mem_cons, List.not_mem_nil, or_false] at hq; rcases hq with rfl | rfl<;> first | exact law1_WordTurns.sum2_ok | exact law1_WordTurns.sum0_ok)) (bySpot (ids := [2000006, 2000011]) (by kernel_rfl) (by intro q hq; simp only [List.mem_cons, List.not_mem_nil, or_false] at hq; rcases hq with rfl | rfl <;> first | exact law1_WordTurns.sum2000006_ok | exact law1_WordTurns.sum2000011_ok)) fun x rs h => by
    obtain ⟨a0, a1, a2, u⟩ := x
    cases u
    simp only [Cmd.val_guard, Cmd.val_ret] at h
    split at h <;> try (cases h; done)
    rename_i hp
    exact (law1_WordTurns.eq a0 a1 a2).trans ((law1_WordTurns.nice a0 a1 a2 hp (fun r0 => some ([⟨Ty.bool, r0⟩] : List DVal))).trans h)
end
end Go.D.Ytbcjiicaekfjlaa
