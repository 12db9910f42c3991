import Derived.Test.YtbcjiicaekfjlaaChecked
import Derived.Test.YtbcjiicaekfjlaaDX
import Derived.KernelRfl
import Derived.Test.YtbcjiicaekfjlaaLlaw1
namespace Go.D.Ytbcjiicaekfjlaa
open Go.Proofs
set_option linter.unusedVariables false
set_option linter.unusedSimpArgs false
set_option maxRecDepth 100000
noncomputable section


/-! ### ref1_bit -/
def ref1_bit.env : Env := envNil
theorem ref1_bit.envOk : EnvOk Try.prog ref1_bit.env := envOk_nil _
theorem bv_of {v : Int} (h0 : 0 ≤ v) (h1 : v < 4294967296) : ∃ b : BitVec 32, v = (b.toNat : Int) := by
  refine ⟨BitVec.ofNat 32 v.toNat, ?_⟩
  rw [BitVec.toNat_ofNat]
  omega
theorem bv_lt (b : BitVec 32) : 0 ≤ (b.toNat : Int) ∧ (b.toNat : Int) < 4294967296 := by
  have := b.isLt
  omega
theorem wrap_bv (b : BitVec 32) : IntKind.wrap .u32 (b.toNat : Int) = (b.toNat : Int) := by
  have := b.isLt
  rw [IntKind.wrap_u32]; omega
theorem wrapi_bv (x : Int) : IntKind.wrap .u32 x = ((BitVec.ofInt 32 x).toNat : Int) := by
  rw [IntKind.wrap_u32, BitVec.toNat_ofInt]; omega
theorem ofInt_bv (b : BitVec 32) : BitVec.ofInt 32 (b.toNat : Int) = b := by
  rw [BitVec.ofInt_natCast, BitVec.ofNat_toNat, BitVec.setWidth_eq]
theorem and_bv (x y : Int) : bitop .and .u32 x y = ((BitVec.ofInt 32 x &&& BitVec.ofInt 32 y).toNat : Int) := wrap_bv _
theorem or_bv (x y : Int) : bitop .or .u32 x y = ((BitVec.ofInt 32 x ||| BitVec.ofInt 32 y).toNat : Int) := wrap_bv _
theorem xor_bv (x y : Int) : bitop .xor .u32 x y = ((BitVec.ofInt 32 x ^^^ BitVec.ofInt 32 y).toNat : Int) := wrap_bv _
theorem shl_bv (x n : Int) : shl .u32 x n = ((BitVec.ofInt 32 x <<< n.toNat).toNat : Int) := by
  show IntKind.wrap .u32 (x * 2 ^ (min n.toNat 32)) = _
  rw [BitVec.toNat_shiftLeft, BitVec.toNat_ofInt, IntKind.wrap_u32, Nat.shiftLeft_eq]
  have e0 : (x % ((2 ^ 32 : Nat) : Int)).toNat = (x % 4294967296).toNat := rfl
  rw [e0]
  have hx : (((x % 4294967296).toNat : Nat) : Int) = x % 4294967296 := by omega
  by_cases h : n.toNat ≤ 32
  · rw [show min n.toNat 32 = n.toNat by omega]
    generalize n.toNat = p
    have hp : ((2 ^ p : Nat) : Int) = (2 : Int) ^ p := by rw [Int.natCast_pow]; rfl
    rw [Int.natCast_emod, Int.natCast_mul, hx, hp]
    show x * 2 ^ p % 4294967296 = (x % 4294967296) * 2 ^ p % 4294967296
    have g1 := Int.mul_emod x (2 ^ p) 4294967296
    have g2 := Int.mul_emod (x % 4294967296) (2 ^ p) 4294967296
    rw [Int.emod_emod] at g2
    rw [g1, g2]
  · rw [show min n.toNat 32 = 32 by omega]
    have e : (x % 4294967296).toNat * 2 ^ n.toNat % 2 ^ 32 = 0 := by
      rw [show n.toNat = (n.toNat - 32) + 32 by omega, Nat.pow_add, ← Nat.mul_assoc]
      exact Nat.mul_mod_left _ _
    rw [e]
    show x * 4294967296 % 4294967296 = 0
    omega
theorem shr_bv (b : BitVec 32) (n : Int) : shr .u32 (b.toNat : Int) n = ((b >>> n.toNat).toNat : Int) := by
  show (b.toNat : Int).fdiv (2 ^ (min n.toNat 32)) = _
  rw [Int.fdiv_eq_ediv_of_nonneg _ (Int.le_of_lt (Int.pow_pos (by omega))), BitVec.toNat_ushiftRight, Nat.shiftRight_eq_div_pow]
  by_cases h : n.toNat ≤ 32
  · rw [show min n.toNat 32 = n.toNat by omega]
    push_cast
    rfl
  · have hb := b.isLt
    have e : b.toNat / 2 ^ n.toNat = 0 := by
      apply Nat.div_eq_of_lt
      exact Nat.lt_of_lt_of_le hb (Nat.pow_le_pow_right (by decide) (by omega))
    rw [e, show min n.toNat 32 = 32 by omega]
    show (b.toNat : Int) / 4294967296 = 0
    omega
theorem one_bv (x : BitVec 32) : ((((x &&& 1#32).toNat : Nat) : Int) == (1 : Int)) = x.getLsbD 0 := by
  have h : (x &&& 1#32).toNat = x.toNat % 2 := by rw [BitVec.toNat_and]; exact Nat.and_two_pow_sub_one_eq_mod _ 1
  rw [h, BitVec.getLsbD, Nat.testBit_zero]
  by_cases hx : x.toNat % 2 = 1
  · rw [hx]; rfl
  · rw [decide_eq_false hx]
    simp only [beq_eq_false_iff_ne, ne_eq]
    omega
theorem bit_bv (b : BitVec 32) (n : Int) : word_bit (b.toNat : Int) n = b.getLsbD n.toNat := by
  unfold word_bit
  rw [shr_bv, and_bv, ofInt_bv]
  show ((((b >>> n.toNat) &&& 1#32).toNat : Int) == (1 : Int)) = _
  rw [one_bv, BitVec.getLsbD_ushiftRight]
  simp
theorem asr_bv (b : BitVec 32) {n : Int} (hn : n ≤ 32) : IntKind.wrap .u32 (shr .i32 (IntKind.wrap .i32 (b.toNat : Int)) n) = ((b.sshiftRight n.toNat).toNat : Int) := by
  have e : IntKind.wrap .i32 (b.toNat : Int) = b.toInt := by
    have := b.isLt
    rw [IntKind.wrap_i32, BitVec.toInt_eq_toNat_cond]
    split <;> omega
  rw [e, wrapi_bv]
  show ((BitVec.ofInt 32 (b.toInt.fdiv (2 ^ (min n.toNat 32)))).toNat : Int) = _
  rw [Int.fdiv_eq_ediv_of_nonneg _ (Int.le_of_lt (Int.pow_pos (by omega))), show min n.toNat 32 = n.toNat by omega]
  congr 2
  rw [BitVec.sshiftRight, Int.shiftRight_eq_div_pow]
  push_cast
  rfl
def one32 (k : Int) (b : BitVec 32) : BitVec 32 × Bool :=
  if k = 1 then (b <<< 1, b.getLsbD 31)
  else if k = 2 then (b >>> 1, b.getLsbD 0)
  else if k = 3 then (b.sshiftRight 1, b.getLsbD 0)
  else (b.rotateRight 1, b.getLsbD 0)
def sh32 (k : Int) : Nat → BitVec 32 → Bool → BitVec 32 × Bool
  | 0, b, c => (b, c)
  | n + 1, b, c => one32 k (sh32 k n b c).1
theorem sh32_add (k : Int) (n : Nat) (b : BitVec 32) (c : Bool) : ∀ m, sh32 k m (sh32 k n b c).1 (sh32 k n b c).2 = sh32 k (n + m) b c
  | 0 => rfl
  | m + 1 => by
    show one32 k (sh32 k m (sh32 k n b c).1 (sh32 k n b c).2).1 = one32 k (sh32 k (n + m) b c).1
    rw [sh32_add k n b c m]
theorem sh32_1 (b : BitVec 32) (c : Bool) : ∀ n, sh32 1 (n + 1) b c = (b <<< (n + 1), decide (n + 1 ≤ 32) && b.getLsbD (32 - (n + 1)))
  | 0 => rfl
  | n + 1 => by
    rw [sh32, sh32_1 b c n, one32, if_pos rfl]
    simp only [Prod.mk.injEq]
    refine ⟨(BitVec.shiftLeft_add ..).symm, ?_⟩
    rw [BitVec.getLsbD_shiftLeft, show 32 - (n + 1 + 1) = 31 - (n + 1) by omega]
    congr 1
    by_cases h : n + 1 + 1 ≤ 32
    · rw [decide_eq_true h, decide_eq_false (by omega : ¬ 31 < n + 1)]; rfl
    · rw [decide_eq_false h, decide_eq_true (by omega : 31 < n + 1)]; rfl
theorem sh32_2 (b : BitVec 32) (c : Bool) : ∀ n, sh32 2 (n + 1) b c = (b >>> (n + 1), decide (n + 1 ≤ 32) && b.getLsbD n)
  | 0 => rfl
  | n + 1 => by
    rw [sh32, sh32_2 b c n, one32, if_neg (by decide), if_pos rfl]
    simp only [Prod.mk.injEq]
    refine ⟨(BitVec.shiftRight_add ..).symm, ?_⟩
    rw [BitVec.getLsbD_ushiftRight]
    by_cases h : n + 1 + 1 ≤ 32
    · rw [decide_eq_true h]; simp
    · rw [decide_eq_false h, BitVec.getLsbD_of_ge _ _ (by omega)]; rfl
theorem ror_bit (b : BitVec 32) {i : Nat} (hi : i < 32) : (b.rotateRight 1).getLsbD i = b.getLsbD ((i + 1) % 32) := by
  rw [BitVec.getLsbD_rotateRight]
  by_cases h : i < 31
  · rw [decide_eq_true (by omega : i < 32 - 1 % 32)]
    show b.getLsbD (1 + i) = _
    congr 1
    omega
  · have : i = 31 := by omega
    subst this
    rfl
theorem sh32_3 (b : BitVec 32) (c : Bool) : ∀ n, sh32 3 (n + 1) b c = (b.sshiftRight (min (n + 1) 31), b.getLsbD (min n 31))
  | 0 => rfl
  | n + 1 => by
    rw [sh32, sh32_3 b c n, one32, if_neg (by decide), if_neg (by decide), if_pos rfl]
    simp only [Prod.mk.injEq]
    refine ⟨?_, ?_⟩
    · apply BitVec.eq_of_getLsbD_eq
      intro i hi
      simp only [BitVec.getLsbD_sshiftRight]
      by_cases h : n + 1 ≤ 30
      · rw [show min (n + 1) 31 = n + 1 by omega, show min (n + 1 + 1) 31 = n + 2 by omega]
        by_cases h2 : n + 1 + (1 + i) < 32
        · rw [if_pos (by omega : 1 + i < 32), if_pos h2, if_pos (by omega : n + 2 + i < 32), show n + 1 + (1 + i) = n + 2 + i by omega]
          simp [show ¬ 32 ≤ i by omega, show ¬ 32 ≤ 1 + i by omega]
        · rw [if_neg h2, if_neg (by omega : ¬ n + 2 + i < 32)]
          by_cases h3 : 1 + i < 32
          · rw [if_pos h3]
            simp [show ¬ 32 ≤ i by omega, show ¬ 32 ≤ 1 + i by omega]
          · rw [if_neg h3]
            simp [show ¬ 32 ≤ i by omega, BitVec.msb_sshiftRight]
      · rw [show min (n + 1) 31 = 31 by omega, show min (n + 1 + 1) 31 = 31 by omega]
        by_cases h3 : 1 + i < 32
        · rw [if_pos h3, if_neg (by omega : ¬ 31 + (1 + i) < 32)]
          by_cases h4 : 31 + i < 32
          · rw [if_pos h4]
            have : i = 0 := by omega
            subst this
            simp [BitVec.msb_eq_getLsbD_last]
          · rw [if_neg h4]
            simp [show ¬ 32 ≤ i by omega, show ¬ 32 ≤ 1 + i by omega]
        · rw [if_neg h3, if_neg (by omega : ¬ 31 + i < 32)]
          simp [show ¬ 32 ≤ i by omega, BitVec.msb_sshiftRight]
    · rw [BitVec.getLsbD_sshiftRight]
      by_cases h : n + 1 ≤ 31
      · rw [show min (n + 1) 31 = n + 1 by omega, if_pos (by omega)]
        simp
      · rw [show min (n + 1) 31 = 31 by omega, if_pos (by omega)]
        simp
theorem sh32_4 (b : BitVec 32) (c : Bool) : ∀ n, (∀ i, i < 32 → (sh32 4 n b c).1.getLsbD i = b.getLsbD ((i + n) % 32)) ∧ (0 < n → (sh32 4 n b c).2 = (sh32 4 n b c).1.getLsbD 31)
  | 0 => ⟨fun i hi => by rw [show (i + 0) % 32 = i by omega]; rfl, fun h => absurd h (by decide)⟩
  | n + 1 => by
    obtain ⟨h1, _⟩ := sh32_4 b c n
    rw [sh32, one32, if_neg (by decide), if_neg (by decide), if_neg (by decide)]
    refine ⟨?_, fun _ => ?_⟩
    · intro i hi
      show ((sh32 4 n b c).1.rotateRight 1).getLsbD i = _
      rw [ror_bit _ hi, h1 _ (by omega)]
      congr 1
      omega
    · show (sh32 4 n b c).1.getLsbD 0 = ((sh32 4 n b c).1.rotateRight 1).getLsbD 31
      rw [ror_bit _ (by decide)]
theorem rot_bv (b : BitVec 32) {n : Int} (h0 : 0 ≤ n) (h1 : n ≤ 255) : ∃ r : BitVec 32, bits_RotateLeft32 (b.toNat : Int) (IntKind.wrap .i64 (0 - n)) = (r.toNat : Int) ∧ ∀ i, i < 32 → r.getLsbD i = b.getLsbD ((i + n.toNat) % 32) := by
  have hs : rot_s (IntKind.wrap .i64 (0 - n)) = (32 - n % 32) % 32 := by
    have h : (BitVec.ofInt 64 (IntKind.wrap .u64 (IntKind.wrap .i64 (0 - n))) &&& BitVec.ofInt 64 31).toNat = ((32 - n % 32) % 32).toNat := by
      rw [BitVec.toNat_and, BitVec.toNat_ofInt]
      show _ &&& 31 = _
      rw [show (31 : Nat) = 2 ^ 5 - 1 from rfl, Nat.and_two_pow_sub_one_eq_mod]
      rw [IntKind.wrap_u64, IntKind.wrap_i64]
      omega
    show IntKind.wrap .u64 ((BitVec.ofInt 64 (IntKind.wrap .u64 (IntKind.wrap .i64 (0 - n))) &&& BitVec.ofInt 64 31).toNat : Int) = _
    rw [h, IntKind.wrap_u64]
    omega
  unfold bits_RotateLeft32
  rw [hs]
  have e : IntKind.wrap .u64 (32 - (32 - n % 32) % 32) = 32 - (32 - n % 32) % 32 := by rw [IntKind.wrap_u64]; omega
  rw [e, shl_bv, ofInt_bv, shr_bv, or_bv, ofInt_bv, ofInt_bv]
  refine ⟨_, rfl, ?_⟩
  intro i hi
  rw [BitVec.getLsbD_or, BitVec.getLsbD_shiftLeft, BitVec.getLsbD_ushiftRight, decide_eq_true hi]
  by_cases h : i < ((32 - n % 32) % 32).toNat
  · rw [decide_eq_true h, show (i + n.toNat) % 32 = (32 - (32 - n % 32) % 32).toNat + i by omega]
    simp
  · rw [decide_eq_false h, show (i + n.toNat) % 32 = i - ((32 - n % 32) % 32).toNat by omega, BitVec.getLsbD_of_ge b _ (by omega : 32 ≤ (32 - (32 - n % 32) % 32).toNat + i)]
    simp
/-- a shift of the kinds 1 to 4 is so many single ones -/
theorem shift_sh32 (b : BitVec 32) {k n : Int} (c : Bool) (hk : k = 1 ∨ k = 2 ∨ k = 3 ∨ k = 4) : word_Shift (b.toNat : Int) k n c = (((sh32 k (shN n).toNat b c).1.toNat : Int), (sh32 k (shN n).toNat b c).2) := by
  obtain ⟨h0, h1⟩ := shN_range n
  unfold word_Shift
  generalize shN n = N at h0 h1
  by_cases hz : N = 0
  · subst hz
    rcases hk with rfl | rfl | rfl | rfl <;> rfl
  · obtain ⟨m, hm⟩ : ∃ m : Nat, N = (m : Int) + 1 := ⟨(N - 1).toNat, by omega⟩
    have hz' : (N == 0) = false := by simpa using hz
    have hN : N.toNat = m + 1 := by omega
    have e1 : IntKind.wrap .i64 (N - 1) = N - 1 := by rw [IntKind.wrap_i64]; omega
    have e2 : IntKind.wrap .i64 (32 - N) = 32 - N := by rw [IntKind.wrap_i64]; omega
    rcases hk with rfl | rfl | rfl | rfl
    · show (bif N == 0 then _ else (shl .u32 (b.toNat : Int) N, decide (N ≤ 32) && word_bit (b.toNat : Int) (IntKind.wrap .i64 (32 - N)))) = _
      rw [hz', e2, shl_bv, ofInt_bv, bit_bv, hN, sh32_1]
      simp only [cond_false]
      rw [show (32 - N).toNat = 32 - (m + 1) by omega]
      congr 2
      exact decide_eq_decide.mpr (by omega)
    · show (bif N == 0 then _ else (shr .u32 (b.toNat : Int) N, decide (N ≤ 32) && word_bit (b.toNat : Int) (IntKind.wrap .i64 (N - 1)))) = _
      rw [hz', e1, shr_bv, bit_bv, hN, sh32_2]
      simp only [cond_false]
      rw [show (N - 1).toNat = m by omega]
      congr 2
      exact decide_eq_decide.mpr (by omega)
    · show (bif N == 0 then _ else (IntKind.wrap .u32 (shr .i32 (IntKind.wrap .i32 (b.toNat : Int)) (iminmax false N 31)), word_bit (b.toNat : Int) (iminmax false (IntKind.wrap .i64 (N - 1)) 31))) = _
      rw [hz', e1, iminmax_min, iminmax_min, asr_bv b (by omega), bit_bv, hN, sh32_3]
      simp only [cond_false]
      rw [show (min N 31).toNat = min (m + 1) 31 by omega, show (min (N - 1) 31).toNat = min m 31 by omega]
    · show (bif N == 0 then _ else (bits_RotateLeft32 (b.toNat : Int) (IntKind.wrap .i64 (0 - N)), word_bit (bits_RotateLeft32 (b.toNat : Int) (IntKind.wrap .i64 (0 - N))) 31)) = _
      obtain ⟨r, hr, hb⟩ := rot_bv b h0 h1
      obtain ⟨g1, g2⟩ := sh32_4 b c N.toNat
      have : r = (sh32 4 N.toNat b c).1 := by
        apply BitVec.eq_of_getLsbD_eq
        intro i hi
        rw [hb i hi, g1 i hi]
      rw [hz', hr, bit_bv, this, g2 (by omega)]
      rfl
def ref1_bit.C : Cfg := { rows := [], keep := [], adopt := [] }
def ref1_bit.tree {R : Type} (a0 : Int) (a1 : Int) (ret : Bool → Option R) : Option R :=
  bif decide ((0 : Int) ≤ a1) then ret (bitop BinOp.and IntKind.u32 (shr IntKind.u32 a0 a1) (1 : Int) == (1 : Int)) else none
theorem ref1_bit.eq (a0 : Int) (a1 : Int) : body Try.prog ref1_bit.C ref1_bit.env noL Try.f67 [⟨Ty.int IntKind.u32, a0⟩, ⟨Ty.int IntKind.i64, a1⟩] = ref1_bit.tree a0 a1 (fun r0 => some ([⟨Ty.bool, r0⟩] : List DVal)) := by kernel_rfl
def ref1_bit.pre (v n : Int) : Bool := decide (0 ≤ n)
def ref1_bit (v n : Int) : Bool := word_bit v n
theorem ref1_bit.nice {R : Type} (v n : Int) (hp : ref1_bit.pre v n = true) (ret : Bool → Option R) : ref1_bit.tree v n ret = ret (ref1_bit v n) := by
  have h : decide ((0 : Int) ≤ n) = true := hp
  unfold ref1_bit.tree
  rw [h]
  rfl
def ref1_bit.ctr : Ctr := ctrOf [Ty.int IntKind.u32, Ty.int IntKind.i64] fun x => .guard (ref1_bit.pre (x.1) (x.2.1)) (.ret [⟨Ty.bool, ref1_bit (x.1) (x.2.1)⟩])
theorem ref1_bit.known : Known Try.prog 67 ref1_bit.ctr :=
  known_plain ref1_bit.envOk mixed Try.func67 (by kernel_rfl) (by kernel_rfl) (noLoops (by kernel_rfl)) (noSpots (by kernel_rfl)) fun x rs h => by
    obtain ⟨a0, a1, u⟩ := x
    cases u
    simp only [Cmd.val_guard, Cmd.val_ret] at h
    split at h <;> try (cases h; done)
    rename_i hp
    exact (ref1_bit.eq a0 a1).trans ((ref1_bit.nice a0 a1 hp (fun r0 => some ([⟨Ty.bool, r0⟩] : List DVal))).trans h)

/-! ### ref1_one -/
def ref1_one.env : Env := envCons 67 ref1_bit.ctr <| envNil
theorem ref1_one.envOk : EnvOk Try.prog ref1_one.env := envOk_cons ref1_bit.known (envOk_nil _)
def ref1_one.T3000012 : Tm := ⟨fill 0 48 [(0, Sl.data (Ty.int IntKind.u32)), (8, Sl.data (Ty.int IntKind.u32)), (42, Sl.data Ty.bool)], []⟩
def ref1_one.X3000012_normal : Tm := ⟨fill 0 48 [(0, Sl.data (Ty.int IntKind.u32)), (8, Sl.data (Ty.int IntKind.u32))], []⟩
def ref1_one.o3000012 {R : Type} (v0 : Int) (v1 : Int) (v2 : Bool) (knormal : Int → Int → Option R) : Option R :=
  bif v2 then knormal v0 (bitop BinOp.or IntKind.u32 v1 (2147483648 : Int)) else knormal v0 v1
def ref1_one.s3000012 {R : Type} (v0 : Int) (v1 : Int) (v2 : Bool) (knormal : Int → Int → Option R) : Option R :=
  knormal v0 (bif v2 then bitop BinOp.or IntKind.u32 v1 (2147483648 : Int) else v1)
theorem ref1_one.s3000012_eq {R : Type} (v0 : Int) (v1 : Int) (v2 : Bool) (knormal : Int → Int → Option R) : ref1_one.s3000012 v0 v1 v2 knormal = ref1_one.o3000012 v0 v1 v2 knormal := by
  unfold ref1_one.s3000012 ref1_one.o3000012
  (cases hc : v2 with | false => (first | rfl | simp_all) | true => (first | rfl | simp_all))
def ref1_one.C : Cfg := { rows := [], keep := [(3000012, [0, 8, 42], []), (13000012, [0, 8], [])], adopt := [] }
def ref1_one.sum3000012 : FrV ref1_one.T3000012.fr × StV ref1_one.T3000012.st → (Ex → S → Option (List DVal)) → Option (List DVal) := fun ((v0, v1, v2, ()), (())) K => ref1_one.s3000012 v0 v1 v2 (fun e0 e1 => K .normal (pack ref1_one.X3000012_normal ((e0, e1, ()), (()))))
def ref1_one.L : Nat → Option Sum := fun i => if i = 3000012 then some (sumOf ref1_one.T3000012 ref1_one.sum3000012) else none
theorem ref1_one.x3000012 : ∀ v (K : Ex → S → Option (List DVal)), exec1 Try.prog ref1_one.C ref1_one.env ref1_one.L (spotOf Try.f64 3000012).2.1 (spotOf Try.f64 3000012).2.2 (pack ref1_one.T3000012 v) (fun e s' => K e (trim ref1_one.C (3000012 + 10000000) s')) = (fun (((v0, v1, v2, ()), (())) : FrV ref1_one.T3000012.fr × StV ref1_one.T3000012.st) => ref1_one.o3000012 v0 v1 v2 (fun e0 e1 => K .normal (pack ref1_one.X3000012_normal ((e0, e1, ()), (()))))) v :=
  fun ((v0, v1, v2, ()), (())) K => by kernel_rfl
theorem ref1_one.sum3000012_ok : SpotOk Try.prog ref1_one.C ref1_one.env ref1_one.L (spotOf Try.f64 3000012) := spotOk_of (T := ref1_one.T3000012) (q := 3000012) (f := ref1_one.sum3000012) (by kernel_rfl) (by kernel_rfl) fun ((v0, v1, v2, ()), (())) K r h => (ref1_one.x3000012 _ K).trans ((ref1_one.s3000012_eq v0 v1 v2 (fun e0 e1 => K .normal (pack ref1_one.X3000012_normal ((e0, e1, ()), (()))))).symm.trans h)
def ref1_one.tree {R : Type} (a0 : Int) (a1 : Int) (a2 : Bool) (ret : Int → Bool → Option R) : Option R :=
  bif a1 == (1 : Int) then bif ref1_bit.pre a0 (31 : Int) then ret (shl IntKind.u32 a0 (1 : Int)) (ref1_bit a0 (31 : Int)) else none else bif a1 == (2 : Int) then bif ref1_bit.pre a0 (0 : Int) then ret (shr IntKind.u32 a0 (1 : Int)) (ref1_bit a0 (0 : Int)) else none else bif a1 == (3 : Int) then bif ref1_bit.pre a0 (0 : Int) then ret (bitop BinOp.or IntKind.u32 (shr IntKind.u32 a0 (1 : Int)) (bitop BinOp.and IntKind.u32 a0 (2147483648 : Int))) (ref1_bit a0 (0 : Int)) else none else bif a1 == (4 : Int) then bif ref1_bit.pre a0 (0 : Int) then ret (bitop BinOp.or IntKind.u32 (shr IntKind.u32 a0 (1 : Int)) (shl IntKind.u32 a0 (31 : Int))) (ref1_bit a0 (0 : Int)) else none else bif ref1_bit.pre a0 (0 : Int) then ret (bif a2 then bitop BinOp.or IntKind.u32 (shr IntKind.u32 a0 (1 : Int)) (2147483648 : Int) else shr IntKind.u32 a0 (1 : Int)) (ref1_bit a0 (0 : Int)) else none
theorem ref1_one.eq (a0 : Int) (a1 : Int) (a2 : Bool) : body Try.prog ref1_one.C ref1_one.env ref1_one.L Try.f64 [⟨Ty.int IntKind.u32, a0⟩, ⟨Ty.int IntKind.i64, a1⟩, ⟨Ty.bool, a2⟩] = ref1_one.tree a0 a1 a2 (fun r0 r1 => some ([⟨Ty.int IntKind.u32, r0⟩, ⟨Ty.bool, r1⟩] : List DVal)) := by kernel_rfl
def ref1_one (v k : Int) (c : Bool) : Int × Bool :=
  bif k == 1 then (shl .u32 v 1, word_bit v 31)
  else bif k == 2 then (shr .u32 v 1, word_bit v 0)
  else bif k == 3 then (bitop .or .u32 (shr .u32 v 1) (bitop .and .u32 v 2147483648), word_bit v 0)
  else bif k == 4 then (bitop .or .u32 (shr .u32 v 1) (shl .u32 v 31), word_bit v 0)
  else (bif c then bitop .or .u32 (shr .u32 v 1) 2147483648 else shr .u32 v 1, word_bit v 0)
theorem ref1_one.nice {R : Type} (v k : Int) (c : Bool) (ret : Int → Bool → Option R) : ref1_one.tree v k c ret = ret (ref1_one v k c).1 (ref1_one v k c).2 := by
  unfold ref1_one.tree ref1_one
  cases k == 1 <;> cases k == 2 <;> cases k == 3 <;> cases k == 4 <;> rfl
theorem ref1_one_32 (b : BitVec 32) {k : Int} (c : Bool) (hk : k = 1 ∨ k = 2 ∨ k = 3 ∨ k = 4) : ref1_one (b.toNat : Int) k c = (((one32 k b).1.toNat : Int), (one32 k b).2) := by
  rcases hk with rfl | rfl | rfl | rfl
  · show (shl .u32 (b.toNat : Int) 1, word_bit (b.toNat : Int) 31) = _
    rw [shl_bv, ofInt_bv, bit_bv]
    rfl
  · show (shr .u32 (b.toNat : Int) 1, word_bit (b.toNat : Int) 0) = _
    rw [shr_bv, bit_bv]
    rfl
  · show (bitop .or .u32 (shr .u32 (b.toNat : Int) 1) (bitop .and .u32 (b.toNat : Int) 2147483648), word_bit (b.toNat : Int) 0) = _
    rw [shr_bv, and_bv, or_bv, ofInt_bv, ofInt_bv, ofInt_bv, bit_bv]
    show (((b >>> 1 ||| (b &&& 2147483648#32)).toNat : Int), b.getLsbD 0) = (((b.sshiftRight 1).toNat : Int), b.getLsbD 0)
    congr 3
    apply BitVec.eq_of_getLsbD_eq
    intro i hi
    rw [BitVec.getLsbD_or, BitVec.getLsbD_ushiftRight, BitVec.getLsbD_and, BitVec.getLsbD_sshiftRight]
    have hm : ∀ i, i < 32 → (2147483648#32).getLsbD i = decide (i = 31) := by decide
    rw [hm i hi]
    by_cases h : 1 + i < 32
    · rw [if_pos h, decide_eq_false (by omega : ¬ i = 31)]
      simp
      omega
    · have : i = 31 := by omega
      subst this
      simp [BitVec.msb_eq_getLsbD_last]
  · show (bitop .or .u32 (shr .u32 (b.toNat : Int) 1) (shl .u32 (b.toNat : Int) 31), word_bit (b.toNat : Int) 0) = _
    rw [shr_bv, shl_bv, or_bv, ofInt_bv, ofInt_bv, ofInt_bv, bit_bv]
    show (((b >>> 1 ||| b <<< 31).toNat : Int), b.getLsbD 0) = (((b.rotateRight 1).toNat : Int), b.getLsbD 0)
    congr 3
def ref1_one.ctr : Ctr := ctrOf [Ty.int IntKind.u32, Ty.int IntKind.i64, Ty.bool] fun x => .ret [⟨Ty.int IntKind.u32, (ref1_one (x.1) (x.2.1) (x.2.2.1)).1⟩, ⟨Ty.bool, (ref1_one (x.1) (x.2.1) (x.2.2.1)).2⟩]
theorem ref1_one.known : Known Try.prog 64 ref1_one.ctr :=
  known_plain ref1_one.envOk mixed Try.func64 (by kernel_rfl) (by kernel_rfl) (noLoops (by kernel_rfl)) (bySpot (ids := [3000012]) (by kernel_rfl) (by intro q hq; simp only [List.mem_cons, List.not_mem_nil, or_false] at hq; subst hq; first | exact ref1_one.sum3000012_ok)) fun x rs h => by
    obtain ⟨a0, a1, a2, u⟩ := x
    cases u
    simp only [Cmd.val_ret] at h
    exact (ref1_one.eq a0 a1 a2).trans ((ref1_one.nice a0 a1 a2 (fun r0 r1 => some ([⟨Ty.int IntKind.u32, r0⟩, ⟨Ty.bool, r1⟩] : List DVal))).trans h)

/-! ### ref1_Shift -/
def ref1_Shift.env : Env := envCons 64 ref1_one.ctr <| envNil
theorem ref1_Shift.envOk : EnvOk Try.prog ref1_Shift.env := envOk_cons ref1_one.known (envOk_nil _)
def ref_it (k : Int) : Nat → Int × Bool → Int × Bool
  | 0, p => p
  | n + 1, p => ref_it k n (ref1_one p.1 k p.2)
def ref1_Shift.T2000002 : Tm := ⟨fill 0 44 [(0, Sl.data (Ty.int IntKind.u32)), (1, Sl.data (Ty.int IntKind.i64)), (2, Sl.data (Ty.int IntKind.i64)), (3, Sl.data Ty.bool)], []⟩
def ref1_Shift.X2000002_normal : Tm := ⟨fill 0 44 [(0, Sl.data (Ty.int IntKind.u32)), (1, Sl.data (Ty.int IntKind.i64)), (2, Sl.data (Ty.int IntKind.i64)), (3, Sl.data Ty.bool), (19, Sl.data Ty.bool)], []⟩
def ref1_Shift.o2000002 {R : Type} (v0 : Int) (v1 : Int) (v2 : Int) (v3 : Bool) (knormal : Int → Int → Int → Bool → Bool → Option R) : Option R :=
  bif decide (v1 < (1 : Int)) then knormal v0 v1 v2 v3 true else knormal v0 v1 v2 v3 (decide (v1 > (5 : Int)))
def ref1_Shift.s2000002 {R : Type} (v0 : Int) (v1 : Int) (v2 : Int) (v3 : Bool) (knormal : Int → Int → Int → Bool → Bool → Option R) : Option R :=
  knormal v0 v1 v2 v3 (decide (v1 < (1 : Int)) || decide (v1 > (5 : Int)))
theorem ref1_Shift.s2000002_eq {R : Type} (v0 : Int) (v1 : Int) (v2 : Int) (v3 : Bool) (knormal : Int → Int → Int → Bool → Bool → Option R) : ref1_Shift.s2000002 v0 v1 v2 v3 knormal = ref1_Shift.o2000002 v0 v1 v2 v3 knormal := by
  unfold ref1_Shift.s2000002 ref1_Shift.o2000002
  (cases hc : decide (v1 < (1 : Int)) with | false => (first | rfl | simp_all) | true => (first | rfl | simp_all))
def ref1_Shift.T0 : Tm := ⟨fill 0 44 [(0, Sl.data (Ty.int IntKind.u32)), (1, Sl.data (Ty.int IntKind.i64)), (2, Sl.data (Ty.int IntKind.i64)), (3, Sl.data Ty.bool), (10, Sl.data (Ty.int IntKind.i64))], []⟩
def ref1_Shift.X0_exit0 : Tm := ⟨fill 0 44 [(0, Sl.data (Ty.int IntKind.u32)), (3, Sl.data Ty.bool)], []⟩
def ref1_Shift.round0 {R : Type} (v0 : Int) (v1 : Int) (v2 : Int) (v3 : Bool) (v4 : Int) (next : Int → Int → Int → Bool → Int → Option R) (kexit0 : Int → Bool → Option R) : Option R :=
  bif decide (v4 < v2) then next (Prod.fst (ref1_one v0 v1 v3)) v1 v2 (Prod.snd (ref1_one v0 v1 v3)) (IntKind.wrap IntKind.i64 (v4 + (1 : Int))) else kexit0 v0 v3
def ref1_Shift.R0 {R : Type} (kexit0 : Int → Bool → Option R) : (Int × Int × Int × Bool × Int) → ((Int × Int × Int × Bool × Int) → Option R) → Option R := fun (v0, v1, v2, v3, v4) next => ref1_Shift.round0 v0 v1 v2 v3 v4 (fun w0 w1 w2 w3 w4 => next (w0, w1, w2, w3, w4)) kexit0
theorem ref1_Shift.R0_eq {R : Type} (kexit0 : Int → Bool → Option R) (v0 : Int) (v1 : Int) (v2 : Int) (v3 : Bool) (v4 : Int) (next : (Int × Int × Int × Bool × Int) → Option R) : ref1_Shift.R0 kexit0 (v0, v1, v2, v3, v4) next = ref1_Shift.round0 v0 v1 v2 v3 v4 (fun w0 w1 w2 w3 w4 => next (w0, w1, w2, w3, w4)) kexit0 := rfl
def ref1_Shift.loop0 {R : Type} (v0 : Int) (v1 : Int) (v2 : Int) (v3 : Bool) (v4 : Int) (kexit0 : Int → Bool → Option R) : Option R :=
  if 0 ≤ v4 ∧ v4 ≤ v2 ∧ v2 ≤ 255 then kexit0 (ref_it v1 (v2 - v4).toNat (v0, v3)).1 (ref_it v1 (v2 - v4).toNat (v0, v3)).2 else none
theorem ref1_Shift.loop0_ok {R : Type} (v0 : Int) (v1 : Int) (v2 : Int) (v3 : Bool) (v4 : Int) (kexit0 : Int → Bool → Option R) (r : R) (h : ref1_Shift.loop0 v0 v1 v2 v3 v4 kexit0 = some r) : ∃ n, lp (ref1_Shift.R0 kexit0) n (v0, v1, v2, v3, v4) = some r := by
  unfold ref1_Shift.loop0 at h
  split at h <;> try (cases h; done)
  rename_i hc
  obtain ⟨h1, h2, h3⟩ := hc
  rw [← h]
  refine lp_spec (round := ref1_Shift.R0 kexit0) (spec := fun (v0, v1, v2, v3, v4) => kexit0 (ref_it v1 (v2 - v4).toNat (v0, v3)).1 (ref_it v1 (v2 - v4).toNat (v0, v3)).2) (inv := fun (v0, v1, v2, v3, v4) => 0 ≤ v4 ∧ v4 ≤ v2 ∧ v2 ≤ 255) (μ := fun (v0, v1, v2, v3, v4) => (v2 - v4).toNat) ?_ (v0, v1, v2, v3, v4) ⟨h1, h2, h3⟩
  rintro ⟨w0, w1, w2, w3, w4⟩ ⟨k1, k2, k3⟩ next hn
  rw [ref1_Shift.R0_eq, ref1_Shift.round0]
  by_cases hi : w4 < w2
  · have e : IntKind.wrap .i64 (w4 + 1) = w4 + 1 := by rw [IntKind.wrap_i64]; omega
    rw [decide_eq_true hi, e]
    dsimp only
    rw [hn (_, w1, w2, _, w4 + 1) ⟨by omega, by omega, k3⟩ (by simp only; omega), show (w2 - w4).toNat = (w2 - (w4 + 1)).toNat + 1 by omega, ref_it]
    rfl
  · rw [decide_eq_false hi]
    dsimp only
    rw [show (w2 - w4).toNat = 0 by omega]
    rfl
def ref1_Shift.C : Cfg := { rows := [], keep := [(0, [0, 1, 2, 3, 10], []), (1000000, [0, 3, 8, 9], []), (2000002, [0, 1, 2, 3], []), (12000002, [0, 1, 2, 3, 19], [])], adopt := [] }
def ref1_Shift.sum2000002 : FrV ref1_Shift.T2000002.fr × StV ref1_Shift.T2000002.st → (Ex → S → Option (List DVal)) → Option (List DVal) := fun ((v0, v1, v2, v3, ()), (())) K => ref1_Shift.s2000002 v0 v1 v2 v3 (fun e0 e1 e2 e3 e4 => K .normal (pack ref1_Shift.X2000002_normal ((e0, e1, e2, e3, e4, ()), (()))))
def ref1_Shift.sum0 : FrV ref1_Shift.T0.fr × StV ref1_Shift.T0.st → (Ex → S → Option (List DVal)) → Option (List DVal) := fun ((v0, v1, v2, v3, v4, ()), (())) K => ref1_Shift.loop0 v0 v1 v2 v3 v4 (fun e0 e1 => K (.exit 0) (pack ref1_Shift.X0_exit0 ((e0, e1, ()), (()))))
def ref1_Shift.rnd0 : FrV ref1_Shift.T0.fr × StV ref1_Shift.T0.st → (FrV ref1_Shift.T0.fr × StV ref1_Shift.T0.st → Option (List DVal)) → (Ex → S → Option (List DVal)) → Option (List DVal) := fun ((v0, v1, v2, v3, v4, ()), (())) next K => ref1_Shift.round0 v0 v1 v2 v3 v4 (fun w0 w1 w2 w3 w4 => next ((w0, w1, w2, w3, w4, ()), (()))) (fun e0 e1 => K (.exit 0) (pack ref1_Shift.X0_exit0 ((e0, e1, ()), (()))))
def ref1_Shift.L : Nat → Option Sum := fun i => if i = 0 then some (sumOf ref1_Shift.T0 ref1_Shift.sum0) else if i = 2000002 then some (sumOf ref1_Shift.T2000002 ref1_Shift.sum2000002) else none
theorem ref1_Shift.rnd0_eq : ∀ v (r : S → Option (List DVal)) (K : Ex → S → Option (List DVal)), exec Try.prog ref1_Shift.C ref1_Shift.env ref1_Shift.L 0 (loopOf Try.f27 0) (pack ref1_Shift.T0 v) (fun e s' => match e with | .normal => r (trim ref1_Shift.C 0 s') | e => K e (trim ref1_Shift.C (0 + 1000000) s')) = ref1_Shift.rnd0 v (fun v' => r (pack ref1_Shift.T0 v')) K :=
  fun ((v0, v1, v2, v3, v4, ()), (())) r K => by kernel_rfl
theorem ref1_Shift.lp0 (K : Ex → S → Option (List DVal)) : ∀ (n : Nat) (v0 : Int) (v1 : Int) (v2 : Int) (v3 : Bool) (v4 : Int), lp (fun v next => ref1_Shift.rnd0 v next K) n ((v0, v1, v2, v3, v4, ()), (())) = lp (ref1_Shift.R0 (fun e0 e1 => K (.exit 0) (pack ref1_Shift.X0_exit0 ((e0, e1, ()), (()))))) n (v0, v1, v2, v3, v4) := by
  intro n
  induction n with
  | zero => intros; rfl
  | succ n ih =>
    intro v0 v1 v2 v3 v4
    show ref1_Shift.round0 v0 v1 v2 v3 v4 (fun w0 w1 w2 w3 w4 => lp (fun v next => ref1_Shift.rnd0 v next K) n ((w0, w1, w2, w3, w4, ()), (()))) (fun e0 e1 => K (.exit 0) (pack ref1_Shift.X0_exit0 ((e0, e1, ()), (())))) = ref1_Shift.round0 v0 v1 v2 v3 v4 (fun w0 w1 w2 w3 w4 => lp (ref1_Shift.R0 (fun e0 e1 => K (.exit 0) (pack ref1_Shift.X0_exit0 ((e0, e1, ()), (()))))) n (w0, w1, w2, w3, w4)) (fun e0 e1 => K (.exit 0) (pack ref1_Shift.X0_exit0 ((e0, e1, ()), (()))))
    simp only [ih]
theorem ref1_Shift.sum0_ok : SumOk Try.prog ref1_Shift.C ref1_Shift.env ref1_Shift.L 0 (loopOf Try.f27 0) := sumOk_lp (T := ref1_Shift.T0) (rnd := ref1_Shift.rnd0) (f := ref1_Shift.sum0) rfl ref1_Shift.rnd0_eq fun ((v0, v1, v2, v3, v4, ()), (())) K r h => by
  obtain ⟨n, hn⟩ := ref1_Shift.loop0_ok v0 v1 v2 v3 v4 (fun e0 e1 => K (.exit 0) (pack ref1_Shift.X0_exit0 ((e0, e1, ()), (())))) r h
  exact ⟨n, by rw [ref1_Shift.lp0]; exact hn⟩
theorem ref1_Shift.x2000002 : ∀ v (K : Ex → S → Option (List DVal)), exec1 Try.prog ref1_Shift.C ref1_Shift.env ref1_Shift.L (spotOf Try.f27 2000002).2.1 (spotOf Try.f27 2000002).2.2 (pack ref1_Shift.T2000002 v) (fun e s' => K e (trim ref1_Shift.C (2000002 + 10000000) s')) = (fun (((v0, v1, v2, v3, ()), (())) : FrV ref1_Shift.T2000002.fr × StV ref1_Shift.T2000002.st) => ref1_Shift.o2000002 v0 v1 v2 v3 (fun e0 e1 e2 e3 e4 => K .normal (pack ref1_Shift.X2000002_normal ((e0, e1, e2, e3, e4, ()), (()))))) v :=
  fun ((v0, v1, v2, v3, ()), (())) K => by kernel_rfl
theorem ref1_Shift.sum2000002_ok : SpotOk Try.prog ref1_Shift.C ref1_Shift.env ref1_Shift.L (spotOf Try.f27 2000002) := spotOk_of (T := ref1_Shift.T2000002) (q := 2000002) (f := ref1_Shift.sum2000002) (by kernel_rfl) (by kernel_rfl) fun ((v0, v1, v2, v3, ()), (())) K r h => (ref1_Shift.x2000002 _ K).trans ((ref1_Shift.s2000002_eq v0 v1 v2 v3 (fun e0 e1 e2 e3 e4 => K .normal (pack ref1_Shift.X2000002_normal ((e0, e1, e2, e3, e4, ()), (()))))).symm.trans h)
def ref1_Shift.tree {R : Type} (a0 : Int) (a1 : Int) (a2 : Int) (a3 : Bool) (ret : Int → Bool → Option R) : Option R :=
  bif decide (a1 < (1 : Int)) || decide (a1 > (5 : Int)) then ret a0 a3 else bif a1 == (5 : Int) then ret (Prod.fst (ref1_one a0 a1 a3)) (Prod.snd (ref1_one a0 a1 a3)) else ref1_Shift.loop0 a0 a1 (iminmax false (iminmax true a2 (0 : Int)) (255 : Int)) a3 (0 : Int) fun e0 e1 => ret e0 e1
theorem ref1_Shift.eq (a0 : Int) (a1 : Int) (a2 : Int) (a3 : Bool) : body Try.prog ref1_Shift.C ref1_Shift.env ref1_Shift.L Try.f27 [⟨Ty.int IntKind.u32, a0⟩, ⟨Ty.int IntKind.i64, a1⟩, ⟨Ty.int IntKind.i64, a2⟩, ⟨Ty.bool, a3⟩] = ref1_Shift.tree a0 a1 a2 a3 (fun r0 r1 => some ([⟨Ty.int IntKind.u32, r0⟩, ⟨Ty.bool, r1⟩] : List DVal)) := by kernel_rfl
def ref1_Shift.pre (v k n : Int) (c : Bool) : Bool := true
def ref1_Shift (v k n : Int) (c : Bool) : Int × Bool :=
  bif decide (k < 1) || decide (k > 5) then (v, c)
  else bif k == 5 then ref1_one v k c
  else ref_it k (shN n).toNat (v, c)
theorem ref1_Shift.nice {R : Type} (v k n : Int) (c : Bool) (hp : ref1_Shift.pre v k n c = true) (ret : Int → Bool → Option R) : ref1_Shift.tree v k n c ret = ret (ref1_Shift v k n c).1 (ref1_Shift v k n c).2 := by
  unfold ref1_Shift.tree ref1_Shift ref1_Shift.loop0
  rw [show iminmax false (iminmax true n 0) 255 = shN n from rfl]
  obtain ⟨h0, h1⟩ := shN_range n
  rw [if_pos ⟨by decide, h0, h1⟩, Int.sub_zero]
  cases decide (k < 1) || decide (k > 5) <;> cases k == 5 <;> rfl
theorem ref_it_32 {k : Int} (hk : k = 1 ∨ k = 2 ∨ k = 3 ∨ k = 4) : ∀ (n : Nat) (b : BitVec 32) (c : Bool), ref_it k n ((b.toNat : Int), c) = (((sh32 k n b c).1.toNat : Int), (sh32 k n b c).2)
  | 0, b, c => rfl
  | n + 1, b, c => by
    rw [ref_it]
    dsimp only
    have h := sh32_add k 1 b c n
    rw [Nat.add_comm] at h
    rw [ref1_one_32 b c hk, ref_it_32 hk n, ← h]
    rfl
theorem shift_eq {v : Int} (hv : U32 v) (k n : Int) (c : Bool) : ref1_Shift v k n c = word_Shift v k n c := by
  obtain ⟨b, rfl⟩ := bv_of hv.1 hv.2
  by_cases hk : k = 1 ∨ k = 2 ∨ k = 3 ∨ k = 4
  · rw [shift_sh32 b c hk, ← ref_it_32 hk]
    rcases hk with rfl | rfl | rfl | rfl <;> rfl
  · by_cases h5 : k = 5
    · subst h5; rfl
    · unfold ref1_Shift word_Shift
      have e1 : (decide (k < 1) || decide (k > 5)) = true := by
        rw [Bool.or_eq_true, decide_eq_true_eq, decide_eq_true_eq]; omega
      have a5 : (k == 5) = false := by simpa using h5
      have a1 : (k == 1) = false := by simp; omega
      have a2 : (k == 2) = false := by simp; omega
      have a3 : (k == 3) = false := by simp; omega
      have a4 : (k == 4) = false := by simp; omega
      rw [e1, a5, a1, a2, a3, a4]
      cases shN n == 0 <;> rfl

def ref1_Shift.ctr : Ctr := ctrOf [Ty.int IntKind.u32, Ty.int IntKind.i64, Ty.int IntKind.i64, Ty.bool] fun x => .guard (ref1_Shift.pre (x.1) (x.2.1) (x.2.2.1) (x.2.2.2.1)) (.ret [⟨Ty.int IntKind.u32, (ref1_Shift (x.1) (x.2.1) (x.2.2.1) (x.2.2.2.1)).1⟩, ⟨Ty.bool, (ref1_Shift (x.1) (x.2.1) (x.2.2.1) (x.2.2.2.1)).2⟩])
theorem ref1_Shift.known : Known Try.prog 27 ref1_Shift.ctr :=
  known_plain ref1_Shift.envOk mixed Try.func27 (by kernel_rfl) (by kernel_rfl) (byId (by kernel_rfl : loopIds Try.f27 = [0]) (by intro q hq; simp only [List.mem_cons, List.not_mem_nil, or_false] at hq; subst hq; first | exact ref1_Shift.sum0_ok)) (bySpot (ids := [2000002]) (by kernel_rfl) (by intro q hq; simp only [List.mem_cons, List.not_mem_nil, or_false] at hq; subst hq; first | exact ref1_Shift.sum2000002_ok)) fun x rs h => by
    obtain ⟨a0, a1, a2, a3, u⟩ := x
    cases u
    simp only [Cmd.val_guard, Cmd.val_ret] at h
    split at h <;> try (cases h; done)
    rename_i hp
    exact (ref1_Shift.eq a0 a1 a2 a3).trans ((ref1_Shift.nice a0 a1 a2 a3 hp (fun r0 r1 => some ([⟨Ty.int IntKind.u32, r0⟩, ⟨Ty.bool, r1⟩] : List DVal))).trans h)
end
end Go.D.Ytbcjiicaekfjlaa
