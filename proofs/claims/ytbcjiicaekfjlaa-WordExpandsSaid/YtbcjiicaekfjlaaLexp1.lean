import Derived.Test.YtbcjiicaekfjlaaChecked
import Derived.Test.YtbcjiicaekfjlaaDX
import Derived.KernelRfl
import Derived.Test.YtbcjiicaekfjlaaLbits1
namespace Go.D.Ytbcjiicaekfjlaa
open Go.Proofs
set_option linter.unusedVariables false
set_option linter.unusedSimpArgs false
set_option maxRecDepth 100000
noncomputable section


/-! ### ref1_Expand -/
def ref1_Expand.env : Env := envCons 27 ref1_Shift.ctr <| envNil
theorem ref1_Expand.envOk : EnvOk Try.prog ref1_Expand.env := envOk_cons ref1_Shift.known (envOk_nil _)
theorem and_mod (k : Nat) (hk : k ≤ 32) {x : Int} (hx : U32 x) : bitop .and .u32 x (((2 ^ k - 1 : Nat)) : Int) = x % ((2 ^ k : Nat) : Int) := by
  obtain ⟨b, rfl⟩ := bv_of hx.1 hx.2
  have hp : 2 ^ k ≤ 2 ^ 32 := Nat.pow_le_pow_right (by decide) hk
  have h0 : 0 < 2 ^ k := Nat.two_pow_pos k
  rw [and_bv, ofInt_bv, BitVec.toNat_and, BitVec.ofInt_natCast, BitVec.toNat_ofNat, Nat.mod_eq_of_lt (by omega : 2 ^ k - 1 < 2 ^ 32), Nat.and_two_pow_sub_one_eq_mod, Int.natCast_emod]
theorem and_4095 {x : Int} (hx : U32 x) : bitop .and .u32 x 4095 = x % 4096 := and_mod 12 (by decide) hx
theorem and_255 {x : Int} (hx : U32 x) : bitop .and .u32 x 255 = x % 256 := and_mod 8 (by decide) hx
theorem and_127 {x : Int} (hx : U32 x) : bitop .and .u32 x 127 = x % 128 := and_mod 7 (by decide) hx
theorem and_31 {x : Int} (hx : U32 x) : bitop .and .u32 x 31 = x % 32 := and_mod 5 (by decide) hx
theorem and_3 {x : Int} (hx : U32 x) : bitop .and .u32 x 3 = x % 4 := and_mod 2 (by decide) hx
theorem u32_mod {x : Int} (m : Int) (h0 : 0 < m) (h1 : m ≤ 4294967296) : U32 (x % m) := ⟨Int.emod_nonneg _ (by omega), by have := Int.emod_lt_of_pos x h0; omega⟩
theorem u32_div {x : Int} (hx : U32 x) (m : Int) (h0 : 0 < m) : U32 (x / m) := ⟨Int.ediv_nonneg hx.1 (by omega), by
  have h := Int.ediv_le_self m hx.1
  have := hx.2
  omega⟩
theorem ex_tbl : ∀ y : Fin 256, [((y.val : Nat) : Int), bitop .or .u32 (y.val : Int) (shl .u32 (y.val : Int) 16), bitop .or .u32 (shl .u32 (y.val : Int) 8) (shl .u32 (y.val : Int) 24), bitop .or .u32 (bitop .or .u32 (bitop .or .u32 (y.val : Int) (shl .u32 (y.val : Int) 8)) (shl .u32 (y.val : Int) 16)) (shl .u32 (y.val : Int) 24)] = [IntKind.wrap .u32 ((y.val : Int) * 1), IntKind.wrap .u32 ((y.val : Int) * 65537), IntKind.wrap .u32 ((y.val : Int) * 16777472), IntKind.wrap .u32 ((y.val : Int) * 16843009)] := by decide +kernel
theorem ex_tbl' {y : Int} (h0 : 0 ≤ y) (h1 : y < 256) : [y, bitop .or .u32 y (shl .u32 y 16), bitop .or .u32 (shl .u32 y 8) (shl .u32 y 24), bitop .or .u32 (bitop .or .u32 (bitop .or .u32 y (shl .u32 y 8)) (shl .u32 y 16)) (shl .u32 y 24)] = [IntKind.wrap .u32 (y * 1), IntKind.wrap .u32 (y * 65537), IntKind.wrap .u32 (y * 16777472), IntKind.wrap .u32 (y * 16843009)] := by
  have h := ex_tbl ⟨y.toNat, by omega⟩
  rw [show (((⟨y.toNat, by omega⟩ : Fin 256).val : Nat) : Int) = y from Int.toNat_of_nonneg h0] at h
  exact h
theorem shr_k {x : Int} (k : Nat) (hk : k ≤ 32) : shr .u32 x (k : Int) = x / ((2 ^ k : Nat) : Int) := by
  rw [shr_u32 hk, Int.natCast_pow]
  rfl
theorem shr_10 (x : Int) : shr .u32 x 10 = x / 1024 := shr_k 10 (by decide)
theorem shr_7 (x : Int) : shr .u32 x 7 = x / 128 := shr_k 7 (by decide)
def ref1_Expand.T2000005 : Tm := ⟨fill 0 68 [(1, Sl.data Ty.bool), (7, Sl.data (Ty.int IntKind.u32)), (8, Sl.data (Ty.sl (Ty.int IntKind.u32))), (9, Sl.data (Ty.int IntKind.u32))], []⟩
def ref1_Expand.X2000005_normal : Tm := ⟨fill 0 68 [(1, Sl.data Ty.bool), (8, Sl.data (Ty.sl (Ty.int IntKind.u32))), (9, Sl.data (Ty.int IntKind.u32)), (47, Sl.data Ty.bool)], []⟩
def ref1_Expand.o2000005 {R : Type} (v0 : Bool) (v1 : Int) (v2 : List Int) (v3 : Int) (knormal : Bool → (List Int) → Int → Bool → Option R) : Option R :=
  bif decide (v3 > (0 : Int)) then knormal v0 v2 v3 (v1 == (0 : Int)) else knormal v0 v2 v3 false
def ref1_Expand.s2000005 {R : Type} (v0 : Bool) (v1 : Int) (v2 : List Int) (v3 : Int) (knormal : Bool → (List Int) → Int → Bool → Option R) : Option R :=
  knormal v0 v2 v3 (decide (v3 > (0 : Int)) && v1 == (0 : Int))
theorem ref1_Expand.s2000005_eq {R : Type} (v0 : Bool) (v1 : Int) (v2 : List Int) (v3 : Int) (knormal : Bool → (List Int) → Int → Bool → Option R) : ref1_Expand.s2000005 v0 v1 v2 v3 knormal = ref1_Expand.o2000005 v0 v1 v2 v3 knormal := by
  unfold ref1_Expand.s2000005 ref1_Expand.o2000005
  (cases hc : decide (v3 > (0 : Int)) with | false => (first | rfl | simp_all) | true => (first | rfl | simp_all))
def ref1_Expand.C : Cfg := { rows := [], keep := [(2000005, [1, 7, 8, 9], []), (12000005, [1, 8, 9, 47], [])], adopt := [] }
def ref1_Expand.sum2000005 : FrV ref1_Expand.T2000005.fr × StV ref1_Expand.T2000005.st → (Ex → S → Option (List DVal)) → Option (List DVal) := fun ((v0, v1, v2, v3, ()), (())) K => ref1_Expand.s2000005 v0 v1 v2 v3 (fun e0 e1 e2 e3 => K .normal (pack ref1_Expand.X2000005_normal ((e0, e1, e2, e3, ()), (()))))
def ref1_Expand.L : Nat → Option Sum := fun i => if i = 2000005 then some (sumOf ref1_Expand.T2000005 ref1_Expand.sum2000005) else none
theorem ref1_Expand.x2000005 : ∀ v (K : Ex → S → Option (List DVal)), exec1 Try.prog ref1_Expand.C ref1_Expand.env ref1_Expand.L (spotOf Try.f31 2000005).2.1 (spotOf Try.f31 2000005).2.2 (pack ref1_Expand.T2000005 v) (fun e s' => K e (trim ref1_Expand.C (2000005 + 10000000) s')) = (fun (((v0, v1, v2, v3, ()), (())) : FrV ref1_Expand.T2000005.fr × StV ref1_Expand.T2000005.st) => ref1_Expand.o2000005 v0 v1 v2 v3 (fun e0 e1 e2 e3 => K .normal (pack ref1_Expand.X2000005_normal ((e0, e1, e2, e3, ()), (()))))) v :=
  fun ((v0, v1, v2, v3, ()), (())) K => by kernel_rfl
theorem ref1_Expand.sum2000005_ok : SpotOk Try.prog ref1_Expand.C ref1_Expand.env ref1_Expand.L (spotOf Try.f31 2000005) := spotOk_of (T := ref1_Expand.T2000005) (q := 2000005) (f := ref1_Expand.sum2000005) (by kernel_rfl) (by kernel_rfl) fun ((v0, v1, v2, v3, ()), (())) K r h => (ref1_Expand.x2000005 _ K).trans ((ref1_Expand.s2000005_eq v0 v1 v2 v3 (fun e0 e1 e2 e3 => K .normal (pack ref1_Expand.X2000005_normal ((e0, e1, e2, e3, ()), (()))))).symm.trans h)
def ref1_Expand.tree {R : Type} (a0 : Int) (a1 : Bool) (ret : Int → Bool → Bool → Option R) : Option R :=
  bif bitop BinOp.and IntKind.u32 (shr IntKind.u32 a0 (10 : Int)) (3 : Int) == (0 : Int) then bif decide (bitop BinOp.and IntKind.u32 (shr IntKind.u32 a0 (8 : Int)) (3 : Int) > (0 : Int)) && bitop BinOp.and IntKind.u32 a0 (255 : Int) == (0 : Int) then ret (0 : Int) a1 false else bif decide ((0 : Int) ≤ bitop BinOp.and IntKind.u32 (shr IntKind.u32 a0 (8 : Int)) (3 : Int)) && decide (bitop BinOp.and IntKind.u32 (shr IntKind.u32 a0 (8 : Int)) (3 : Int) < ↑(4 : Nat)) then ret (List.getD [bitop BinOp.and IntKind.u32 a0 (255 : Int), bitop BinOp.or IntKind.u32 (bitop BinOp.and IntKind.u32 a0 (255 : Int)) (shl IntKind.u32 (bitop BinOp.and IntKind.u32 a0 (255 : Int)) (16 : Int)), bitop BinOp.or IntKind.u32 (shl IntKind.u32 (bitop BinOp.and IntKind.u32 a0 (255 : Int)) (8 : Int)) (shl IntKind.u32 (bitop BinOp.and IntKind.u32 a0 (255 : Int)) (24 : Int)), bitop BinOp.or IntKind.u32 (bitop BinOp.or IntKind.u32 (bitop BinOp.or IntKind.u32 (bitop BinOp.and IntKind.u32 a0 (255 : Int)) (shl IntKind.u32 (bitop BinOp.and IntKind.u32 a0 (255 : Int)) (8 : Int))) (shl IntKind.u32 (bitop BinOp.and IntKind.u32 a0 (255 : Int)) (16 : Int))) (shl IntKind.u32 (bitop BinOp.and IntKind.u32 a0 (255 : Int)) (24 : Int))] (Int.toNat (bitop BinOp.and IntKind.u32 (shr IntKind.u32 a0 (8 : Int)) (3 : Int))) (0 : Int)) a1 true else none else bif ref1_Shift.pre (bitop BinOp.or IntKind.u32 (bitop BinOp.and IntKind.u32 a0 (127 : Int)) (128 : Int)) (4 : Int) (IntKind.wrap IntKind.i64 (bitop BinOp.and IntKind.u32 (shr IntKind.u32 a0 (7 : Int)) (31 : Int))) a1 then ret (Prod.fst (ref1_Shift (bitop BinOp.or IntKind.u32 (bitop BinOp.and IntKind.u32 a0 (127 : Int)) (128 : Int)) (4 : Int) (IntKind.wrap IntKind.i64 (bitop BinOp.and IntKind.u32 (shr IntKind.u32 a0 (7 : Int)) (31 : Int))) a1)) (Prod.snd (ref1_Shift (bitop BinOp.or IntKind.u32 (bitop BinOp.and IntKind.u32 a0 (127 : Int)) (128 : Int)) (4 : Int) (IntKind.wrap IntKind.i64 (bitop BinOp.and IntKind.u32 (shr IntKind.u32 a0 (7 : Int)) (31 : Int))) a1)) true else none
theorem ref1_Expand.eq (a0 : Int) (a1 : Bool) : body Try.prog ref1_Expand.C ref1_Expand.env ref1_Expand.L Try.f31 [⟨Ty.int IntKind.u32, a0⟩, ⟨Ty.bool, a1⟩] = ref1_Expand.tree a0 a1 (fun r0 r1 r2 => some ([⟨Ty.int IntKind.u32, r0⟩, ⟨Ty.bool, r1⟩, ⟨Ty.bool, r2⟩] : List DVal)) := by kernel_rfl
def ref1_Expand.pre (i : Int) (c : Bool) : Bool := decide (0 ≤ i ∧ i < 4294967296)
def ref1_Expand (i : Int) (c : Bool) : Int × Bool × Bool := word_Expand i c
theorem ref1_Expand.nice {R : Type} (i : Int) (c : Bool) (hp : ref1_Expand.pre i c = true) (ret : Int → Bool → Bool → Option R) : ref1_Expand.tree i c ret = ret (ref1_Expand i c).1 (ref1_Expand i c).2.1 (ref1_Expand i c).2.2 := by
  have hi' : 0 ≤ i ∧ i < 4294967296 := of_decide_eq_true hp
  have hi : U32 i := hi'
  have bi := hi
  unfold U32 at bi
  unfold ref1_Expand.tree ref1_Expand word_Expand ex_rot ex_x
  rw [shr_10, shr_u32_8, shr_7, and_3 (u32_div hi 1024 (by decide)), and_3 (u32_div hi 256 (by decide)), and_31 (u32_div hi 128 (by decide)), and_4095 hi, and_255 hi, and_127 hi, and_127 (u32_mod 256 (by decide) (by decide)), shr_10, shr_u32_8, shr_7, show i % 4096 / 1024 = i / 1024 % 4 by omega, show i % 4096 / 128 = i / 128 % 32 by omega, show i % 256 % 128 = i % 128 by omega]
  by_cases h : i / 1024 % 4 = 0
  · rw [h, show i % 4096 / 256 = i / 256 % 4 by omega, ex_tbl' (by omega) (by omega), decide_eq_true (by omega : 0 ≤ i / 256 % 4), decide_eq_true (by omega : i / 256 % 4 < ((4 : Nat) : Int))]
    show (bif decide (i / 256 % 4 > 0) && i % 256 == 0 then _ else _) = _
    rcases (by omega : i / 256 % 4 = 0 ∨ i / 256 % 4 = 1 ∨ i / 256 % 4 = 2 ∨ i / 256 % 4 = 3) with e | e | e | e <;> rw [e] <;> cases i % 256 == 0 <;> rfl
  · have hb : (i / 1024 % 4 == 0) = false := by simpa using h
    have hn : (i / 1024 % 4 != 0) = true := by simpa using h
    have hw : IntKind.wrap .i64 (i / 128 % 32) = i / 128 % 32 := by rw [IntKind.wrap_i64]; omega
    have hv : U32 (bitop .or .u32 (i % 128) 128) := by rw [or_bv]; exact bv_lt _
    rw [hb, hn, hw, shift_eq hv]
    unfold word_Shift
    have hs : shN (i / 128 % 32) = i / 128 % 32 := by rw [shN_eq]; omega
    have hz : (i / 128 % 32 == 0) = false := by simp; omega
    rw [hs, hz]
    rfl
def ref1_Expand.ctr : Ctr := ctrOf [Ty.int IntKind.u32, Ty.bool] fun x => .guard (ref1_Expand.pre (x.1) (x.2.1)) (.ret [⟨Ty.int IntKind.u32, (ref1_Expand (x.1) (x.2.1)).1⟩, ⟨Ty.bool, (ref1_Expand (x.1) (x.2.1)).2.1⟩, ⟨Ty.bool, (ref1_Expand (x.1) (x.2.1)).2.2⟩])
theorem ref1_Expand.known : Known Try.prog 31 ref1_Expand.ctr :=
  known_plain ref1_Expand.envOk mixed Try.func31 (by kernel_rfl) (by kernel_rfl) (noLoops (by kernel_rfl)) (bySpot (ids := [2000005]) (by kernel_rfl) (by intro q hq; simp only [List.mem_cons, List.not_mem_nil, or_false] at hq; subst hq; first | exact ref1_Expand.sum2000005_ok)) fun x rs h => by
    obtain ⟨a0, a1, u⟩ := x
    cases u
    simp only [Cmd.val_guard, Cmd.val_ret] at h
    split at h <;> try (cases h; done)
    rename_i hp
    exact (ref1_Expand.eq a0 a1).trans ((ref1_Expand.nice a0 a1 hp (fun r0 r1 r2 => some ([⟨Ty.int IntKind.u32, r0⟩, ⟨Ty.bool, r1⟩, ⟨Ty.bool, r2⟩] : List DVal))).trans h)

/-! ### ref1_Compress -/
def ref1_Compress.env : Env := envCons 31 ref1_Expand.ctr <| envNil
theorem ref1_Compress.envOk : EnvOk Try.prog ref1_Compress.env := envOk_cons ref1_Expand.known (envOk_nil _)
def ref1_Compress.T2000005 : Tm := ⟨fill 0 25 [(0, Sl.data (Ty.int IntKind.u32)), (4, Sl.data (Ty.int IntKind.u32)), (5, Sl.data (Ty.int IntKind.u32)), (7, Sl.data Ty.bool)], []⟩
def ref1_Compress.X2000005_normal : Tm := ⟨fill 0 25 [(0, Sl.data (Ty.int IntKind.u32)), (4, Sl.data (Ty.int IntKind.u32)), (23, Sl.data Ty.bool)], []⟩
def ref1_Compress.o2000005 {R : Type} (v0 : Int) (v1 : Int) (v2 : Int) (v3 : Bool) (knormal : Int → Int → Bool → Option R) : Option R :=
  bif v3 then knormal v0 v1 (v2 == v0) else knormal v0 v1 false
def ref1_Compress.s2000005 {R : Type} (v0 : Int) (v1 : Int) (v2 : Int) (v3 : Bool) (knormal : Int → Int → Bool → Option R) : Option R :=
  knormal v0 v1 (v3 && v2 == v0)
theorem ref1_Compress.s2000005_eq {R : Type} (v0 : Int) (v1 : Int) (v2 : Int) (v3 : Bool) (knormal : Int → Int → Bool → Option R) : ref1_Compress.s2000005 v0 v1 v2 v3 knormal = ref1_Compress.o2000005 v0 v1 v2 v3 knormal := by
  unfold ref1_Compress.s2000005 ref1_Compress.o2000005
  (cases hc : v3 with | false => (first | rfl | simp_all) | true => (first | rfl | simp_all))
def ref1_Compress.T0 : Tm := ⟨fill 0 25 [(0, Sl.data (Ty.int IntKind.u32)), (4, Sl.data (Ty.int IntKind.u32))], []⟩
def ref1_Compress.X0_ret : Tm := ⟨fill 0 25 [(2, Sl.data (Ty.int IntKind.u32)), (3, Sl.data Ty.bool)], []⟩
def ref1_Compress.X0_exit0 : Tm := ⟨fill 0 25 [], []⟩
def ref1_Compress.round0 {R : Type} (v0 : Int) (v1 : Int) (next : Int → Int → Option R) (kret : Int → Bool → Option R) (kexit0 : Option R) : Option R :=
  bif decide (v1 < (4096 : Int)) then bif ref1_Expand.pre v1 false then bif Prod.snd (Prod.snd (ref1_Expand v1 false)) && Prod.fst (ref1_Expand v1 false) == v0 then kret v1 true else next v0 (IntKind.wrap IntKind.u32 (v1 + (1 : Int))) else none else kexit0
def ref1_Compress.R0 {R : Type} (kret : Int → Bool → Option R) (kexit0 : Option R) : (Int × Int) → ((Int × Int) → Option R) → Option R := fun (v0, v1) next => ref1_Compress.round0 v0 v1 (fun w0 w1 => next (w0, w1)) kret kexit0
theorem ref1_Compress.R0_eq {R : Type} (kret : Int → Bool → Option R) (kexit0 : Option R) (v0 : Int) (v1 : Int) (next : (Int × Int) → Option R) : ref1_Compress.R0 kret kexit0 (v0, v1) next = ref1_Compress.round0 v0 v1 (fun w0 w1 => next (w0, w1)) kret kexit0 := rfl
def ref1_Compress.loop0 {R : Type} (v0 : Int) (v1 : Int) (kret : Int → Bool → Option R) (kexit0 : Option R) : Option R :=
  if 0 ≤ v1 ∧ v1 ≤ 4096 then (match comp_from v0 (4096 - v1).toNat v1 with | some j => kret j true | none => kexit0) else none
theorem ref1_Compress.loop0_ok {R : Type} (v0 : Int) (v1 : Int) (kret : Int → Bool → Option R) (kexit0 : Option R) (r : R) (h : ref1_Compress.loop0 v0 v1 kret kexit0 = some r) : ∃ n, lp (ref1_Compress.R0 kret kexit0) n (v0, v1) = some r := by
  unfold ref1_Compress.loop0 at h
  split at h <;> try (cases h; done)
  rename_i hc
  obtain ⟨h1, h2⟩ := hc
  rw [← h]
  refine lp_spec (round := ref1_Compress.R0 kret kexit0) (spec := fun (v, i) => match comp_from v (4096 - i).toNat i with | some j => kret j true | none => kexit0) (inv := fun (v, i) => 0 ≤ i ∧ i ≤ 4096) (μ := fun (v, i) => (4096 - i).toNat) ?_ (v0, v1) ⟨h1, h2⟩
  rintro ⟨v, i⟩ ⟨k1, k2⟩ next hn
  rw [ref1_Compress.R0_eq, ref1_Compress.round0]
  by_cases hi : i < 4096
  · have hnx := hn (v, i + 1) ⟨by omega, by omega⟩ (by simp only; omega)
    have e : IntKind.wrap .u32 (i + 1) = i + 1 := by rw [IntKind.wrap_u32]; omega
    rw [decide_eq_true hi, e, show ref1_Expand.pre i false = true from decide_eq_true ⟨k1, by omega⟩]
    dsimp only
    rw [hnx, show (4096 - i).toNat = (4096 - (i + 1)).toNat + 1 by omega, comp_from, ref1_Expand]
    cases (word_Expand i false).2.2 && (word_Expand i false).1 == v <;> rfl
  · rw [decide_eq_false hi]
    dsimp only
    rw [show (4096 - i).toNat = 0 by omega]
    rfl
def ref1_Compress.C : Cfg := { rows := [], keep := [(0, [0, 4], []), (1000000, [2, 3], []), (2000005, [0, 4, 5, 7], []), (12000005, [0, 4, 23], [])], adopt := [] }
def ref1_Compress.sum2000005 : FrV ref1_Compress.T2000005.fr × StV ref1_Compress.T2000005.st → (Ex → S → Option (List DVal)) → Option (List DVal) := fun ((v0, v1, v2, v3, ()), (())) K => ref1_Compress.s2000005 v0 v1 v2 v3 (fun e0 e1 e2 => K .normal (pack ref1_Compress.X2000005_normal ((e0, e1, e2, ()), (()))))
def ref1_Compress.sum0 : FrV ref1_Compress.T0.fr × StV ref1_Compress.T0.st → (Ex → S → Option (List DVal)) → Option (List DVal) := fun ((v0, v1, ()), (())) K => ref1_Compress.loop0 v0 v1 (fun e0 e1 => K .ret (pack ref1_Compress.X0_ret ((e0, e1, ()), (())))) (K (.exit 0) (pack ref1_Compress.X0_exit0 ((), ())))
def ref1_Compress.rnd0 : FrV ref1_Compress.T0.fr × StV ref1_Compress.T0.st → (FrV ref1_Compress.T0.fr × StV ref1_Compress.T0.st → Option (List DVal)) → (Ex → S → Option (List DVal)) → Option (List DVal) := fun ((v0, v1, ()), (())) next K => ref1_Compress.round0 v0 v1 (fun w0 w1 => next ((w0, w1, ()), (()))) (fun e0 e1 => K .ret (pack ref1_Compress.X0_ret ((e0, e1, ()), (())))) (K (.exit 0) (pack ref1_Compress.X0_exit0 ((), ())))
def ref1_Compress.L : Nat → Option Sum := fun i => if i = 0 then some (sumOf ref1_Compress.T0 ref1_Compress.sum0) else if i = 2000005 then some (sumOf ref1_Compress.T2000005 ref1_Compress.sum2000005) else none
theorem ref1_Compress.rnd0_eq : ∀ v (r : S → Option (List DVal)) (K : Ex → S → Option (List DVal)), exec Try.prog ref1_Compress.C ref1_Compress.env ref1_Compress.L 0 (loopOf Try.f33 0) (pack ref1_Compress.T0 v) (fun e s' => match e with | .normal => r (trim ref1_Compress.C 0 s') | e => K e (trim ref1_Compress.C (0 + 1000000) s')) = ref1_Compress.rnd0 v (fun v' => r (pack ref1_Compress.T0 v')) K :=
  fun ((v0, v1, ()), (())) r K => by kernel_rfl
theorem ref1_Compress.lp0 (K : Ex → S → Option (List DVal)) : ∀ (n : Nat) (v0 : Int) (v1 : Int), lp (fun v next => ref1_Compress.rnd0 v next K) n ((v0, v1, ()), (())) = lp (ref1_Compress.R0 (fun e0 e1 => K .ret (pack ref1_Compress.X0_ret ((e0, e1, ()), (())))) (K (.exit 0) (pack ref1_Compress.X0_exit0 ((), ())))) n (v0, v1) := by
  intro n
  induction n with
  | zero => intros; rfl
  | succ n ih =>
    intro v0 v1
    show ref1_Compress.round0 v0 v1 (fun w0 w1 => lp (fun v next => ref1_Compress.rnd0 v next K) n ((w0, w1, ()), (()))) (fun e0 e1 => K .ret (pack ref1_Compress.X0_ret ((e0, e1, ()), (())))) (K (.exit 0) (pack ref1_Compress.X0_exit0 ((), ()))) = ref1_Compress.round0 v0 v1 (fun w0 w1 => lp (ref1_Compress.R0 (fun e0 e1 => K .ret (pack ref1_Compress.X0_ret ((e0, e1, ()), (())))) (K (.exit 0) (pack ref1_Compress.X0_exit0 ((), ())))) n (w0, w1)) (fun e0 e1 => K .ret (pack ref1_Compress.X0_ret ((e0, e1, ()), (())))) (K (.exit 0) (pack ref1_Compress.X0_exit0 ((), ())))
    simp only [ih]
theorem ref1_Compress.sum0_ok : SumOk Try.prog ref1_Compress.C ref1_Compress.env ref1_Compress.L 0 (loopOf Try.f33 0) := sumOk_lp (T := ref1_Compress.T0) (rnd := ref1_Compress.rnd0) (f := ref1_Compress.sum0) rfl ref1_Compress.rnd0_eq fun ((v0, v1, ()), (())) K r h => by
  obtain ⟨n, hn⟩ := ref1_Compress.loop0_ok v0 v1 (fun e0 e1 => K .ret (pack ref1_Compress.X0_ret ((e0, e1, ()), (())))) (K (.exit 0) (pack ref1_Compress.X0_exit0 ((), ()))) r h
  exact ⟨n, by rw [ref1_Compress.lp0]; exact hn⟩
theorem ref1_Compress.x2000005 : ∀ v (K : Ex → S → Option (List DVal)), exec1 Try.prog ref1_Compress.C ref1_Compress.env ref1_Compress.L (spotOf Try.f33 2000005).2.1 (spotOf Try.f33 2000005).2.2 (pack ref1_Compress.T2000005 v) (fun e s' => K e (trim ref1_Compress.C (2000005 + 10000000) s')) = (fun (((v0, v1, v2, v3, ()), (())) : FrV ref1_Compress.T2000005.fr × StV ref1_Compress.T2000005.st) => ref1_Compress.o2000005 v0 v1 v2 v3 (fun e0 e1 e2 => K .normal (pack ref1_Compress.X2000005_normal ((e0, e1, e2, ()), (()))))) v :=
  fun ((v0, v1, v2, v3, ()), (())) K => by kernel_rfl
theorem ref1_Compress.sum2000005_ok : SpotOk Try.prog ref1_Compress.C ref1_Compress.env ref1_Compress.L (spotOf Try.f33 2000005) := spotOk_of (T := ref1_Compress.T2000005) (q := 2000005) (f := ref1_Compress.sum2000005) (by kernel_rfl) (by kernel_rfl) fun ((v0, v1, v2, v3, ()), (())) K r h => (ref1_Compress.x2000005 _ K).trans ((ref1_Compress.s2000005_eq v0 v1 v2 v3 (fun e0 e1 e2 => K .normal (pack ref1_Compress.X2000005_normal ((e0, e1, e2, ()), (()))))).symm.trans h)
def ref1_Compress.tree {R : Type} (a0 : Int) (ret : Int → Bool → Option R) : Option R :=
  ref1_Compress.loop0 a0 (0 : Int) (fun e0 e1 => ret e0 e1) (ret (0 : Int) false)
theorem ref1_Compress.eq (a0 : Int) : body Try.prog ref1_Compress.C ref1_Compress.env ref1_Compress.L Try.f33 [⟨Ty.int IntKind.u32, a0⟩] = ref1_Compress.tree a0 (fun r0 r1 => some ([⟨Ty.int IntKind.u32, r0⟩, ⟨Ty.bool, r1⟩] : List DVal)) := by kernel_rfl
def ref1_Compress.pre (v : Int) : Bool := true
def ref1_Compress (v : Int) : Int × Bool := word_Compress v
theorem ref1_Compress.nice {R : Type} (v : Int) (hp : ref1_Compress.pre v = true) (ret : Int → Bool → Option R) : ref1_Compress.tree v ret = ret (ref1_Compress v).1 (ref1_Compress v).2 := by
  unfold ref1_Compress.tree ref1_Compress.loop0 ref1_Compress word_Compress
  rw [if_pos ⟨by decide, by decide⟩, show ((4096 : Int) - 0).toNat = 4096 from rfl]
  cases comp_from v 4096 0 <;> rfl
def ref1_Compress.ctr : Ctr := ctrOf [Ty.int IntKind.u32] fun x => .guard (ref1_Compress.pre (x.1)) (.ret [⟨Ty.int IntKind.u32, (ref1_Compress (x.1)).1⟩, ⟨Ty.bool, (ref1_Compress (x.1)).2⟩])
theorem ref1_Compress.known : Known Try.prog 33 ref1_Compress.ctr :=
  known_plain ref1_Compress.envOk mixed Try.func33 (by kernel_rfl) (by kernel_rfl) (byId (by kernel_rfl : loopIds Try.f33 = [0]) (by intro q hq; simp only [List.mem_cons, List.not_mem_nil, or_false] at hq; subst hq; first | exact ref1_Compress.sum0_ok)) (bySpot (ids := [2000005]) (by kernel_rfl) (by intro q hq; simp only [List.mem_cons, List.not_mem_nil, or_false] at hq; subst hq; first | exact ref1_Compress.sum2000005_ok)) fun x rs h => by
    obtain ⟨a0, u⟩ := x
    cases u
    simp only [Cmd.val_guard, Cmd.val_ret] at h
    split at h <;> try (cases h; done)
    rename_i hp
    exact (ref1_Compress.eq a0).trans ((ref1_Compress.nice a0 hp (fun r0 r1 => some ([⟨Ty.int IntKind.u32, r0⟩, ⟨Ty.bool, r1⟩] : List DVal))).trans h)

/-! ### law1_WordExpands -/
def law1_WordExpands.env : Env := envCons 25 law1_known.ctr <| envCons 30 word_Expand.ctr <| envCons 31 ref1_Expand.ctr <| envCons 32 word_Compress.ctr <| envCons 33 ref1_Compress.ctr <| envNil
theorem law1_WordExpands.envOk : EnvOk Try.prog law1_WordExpands.env := envOk_cons law1_known.known (envOk_cons word_Expand.known (envOk_cons ref1_Expand.known (envOk_cons word_Compress.known (envOk_cons ref1_Compress.known (envOk_nil _)))))
theorem beq_bool2 (b : Bool) : eqD Ty.bool b b = true := by cases b <;> rfl
theorem comp_from_some (v : Int) : ∀ (n : Nat) (i j : Int), i ≤ j → j < i + n → (word_Expand j false).2.2 = true → (word_Expand j false).1 = v → (comp_from v n i).isSome = true
  | 0, i, j, h1, h2, _, _ => by omega
  | n + 1, i, j, h1, h2, h3, h4 => by
    rw [comp_from]
    cases h : (word_Expand i false).2.2 && (word_Expand i false).1 == v with
    | true => rfl
    | false =>
      have hij : i ≠ j := by
        rintro rfl
        rw [h3, h4, beq_self_eq_true] at h
        cases h
      exact comp_from_some v n (i + 1) j (by omega) (by omega) h3 h4
theorem compress_some (v : Int) : (word_Compress v).2 = (comp_from v 4096 0).isSome := by
  unfold word_Compress
  cases comp_from v 4096 0 <;> rfl
theorem expand_low {i : Int} (hi : U32 i) (c : Bool) : word_Expand (i % 4096) c = word_Expand i c := by
  have hm : U32 (i % 4096) := u32_mod 4096 (by decide) (by decide)
  unfold word_Expand ex_rot ex_x
  rw [and_4095 hi, and_4095 hm, and_255 hi, and_255 hm, show i % 4096 % 4096 = i % 4096 by omega, show i % 4096 % 256 = i % 256 by omega]
theorem expand_carry (i : Int) (c : Bool) : (word_Expand i c).1 = (word_Expand i false).1 ∧ (word_Expand i c).2.2 = (word_Expand i false).2.2 := by
  unfold word_Expand
  cases shr .u32 (ex_x i) 10 != 0 <;> cases decide (shr .u32 (ex_x i) 8 > 0) && bitop .and .u32 i 255 == 0 <;> exact ⟨rfl, rfl⟩
theorem expand_there {i : Int} (hi : U32 i) (c : Bool) : ((word_Expand i c).2.2 && !(word_Compress (word_Expand i c).1).2) = false := by
  cases h : (word_Expand i c).2.2 with
  | false => rfl
  | true =>
    obtain ⟨e1, e2⟩ := expand_carry i c
    rw [compress_some, comp_from_some _ 4096 0 (i % 4096) (by omega) (by omega) (by rw [expand_low hi, ← e2, h]) (by rw [expand_low hi, ← e1])]
    rfl
def law1_WordExpands.T2000008 : Tm := ⟨fill 0 116 [(1, Sl.data (Ty.int IntKind.u32)), (2, Sl.data Ty.bool), (13, Sl.data (Ty.int IntKind.u32)), (14, Sl.data Ty.bool), (15, Sl.data Ty.bool), (16, Sl.data (Ty.int IntKind.u32)), (17, Sl.data Ty.bool), (18, Sl.data Ty.bool), (39, Sl.data (Ty.sl (Ty.int IntKind.u32))), (40, Sl.data (Ty.int IntKind.i64)), (41, Sl.data (Ty.int IntKind.i64))], []⟩
def law1_WordExpands.X2000008_normal : Tm := ⟨fill 0 116 [(1, Sl.data (Ty.int IntKind.u32)), (2, Sl.data Ty.bool), (13, Sl.data (Ty.int IntKind.u32)), (15, Sl.data Ty.bool), (39, Sl.data (Ty.sl (Ty.int IntKind.u32))), (40, Sl.data (Ty.int IntKind.i64)), (41, Sl.data (Ty.int IntKind.i64)), (71, Sl.data Ty.bool)], []⟩
def law1_WordExpands.o2000008 {R : Type} (v0 : Int) (v1 : Bool) (v2 : Int) (v3 : Bool) (v4 : Bool) (v5 : Int) (v6 : Bool) (v7 : Bool) (v8 : List Int) (v9 : Int) (v10 : Int) (knormal : Int → Bool → Int → Bool → (List Int) → Int → Int → Bool → Option R) : Option R :=
  bif v2 != v5 then knormal v0 v1 v2 v4 v8 v9 v10 true else bif !eqD Ty.bool v3 v6 then knormal v0 v1 v2 v4 v8 v9 v10 true else knormal v0 v1 v2 v4 v8 v9 v10 !eqD Ty.bool v4 v7
def law1_WordExpands.s2000008 {R : Type} (v0 : Int) (v1 : Bool) (v2 : Int) (v3 : Bool) (v4 : Bool) (v5 : Int) (v6 : Bool) (v7 : Bool) (v8 : List Int) (v9 : Int) (v10 : Int) (knormal : Int → Bool → Int → Bool → (List Int) → Int → Int → Bool → Option R) : Option R :=
  knormal v0 v1 v2 v4 v8 v9 v10 (v2 != v5 || (!eqD Ty.bool v3 v6 || !eqD Ty.bool v4 v7))
theorem law1_WordExpands.s2000008_eq {R : Type} (v0 : Int) (v1 : Bool) (v2 : Int) (v3 : Bool) (v4 : Bool) (v5 : Int) (v6 : Bool) (v7 : Bool) (v8 : List Int) (v9 : Int) (v10 : Int) (knormal : Int → Bool → Int → Bool → (List Int) → Int → Int → Bool → Option R) : law1_WordExpands.s2000008 v0 v1 v2 v3 v4 v5 v6 v7 v8 v9 v10 knormal = law1_WordExpands.o2000008 v0 v1 v2 v3 v4 v5 v6 v7 v8 v9 v10 knormal := by
  unfold law1_WordExpands.s2000008 law1_WordExpands.o2000008
  (cases hc : v2 != v5 with | false => (cases hc : !eqD Ty.bool v3 v6 with | false => (first | rfl | simp_all) | true => (first | rfl | simp_all)) | true => (first | rfl | simp_all))
def law1_WordExpands.T2000012 : Tm := ⟨fill 0 116 [(1, Sl.data (Ty.int IntKind.u32)), (2, Sl.data Ty.bool), (15, Sl.data Ty.bool), (19, Sl.data (Ty.int IntKind.u32)), (20, Sl.data Ty.bool), (21, Sl.data (Ty.int IntKind.u32)), (22, Sl.data Ty.bool), (39, Sl.data (Ty.sl (Ty.int IntKind.u32))), (40, Sl.data (Ty.int IntKind.i64)), (41, Sl.data (Ty.int IntKind.i64))], []⟩
def law1_WordExpands.X2000012_normal : Tm := ⟨fill 0 116 [(1, Sl.data (Ty.int IntKind.u32)), (2, Sl.data Ty.bool), (39, Sl.data (Ty.sl (Ty.int IntKind.u32))), (40, Sl.data (Ty.int IntKind.i64)), (41, Sl.data (Ty.int IntKind.i64)), (96, Sl.data Ty.bool)], []⟩
def law1_WordExpands.o2000012 {R : Type} (v0 : Int) (v1 : Bool) (v2 : Bool) (v3 : Int) (v4 : Bool) (v5 : Int) (v6 : Bool) (v7 : List Int) (v8 : Int) (v9 : Int) (knormal : Int → Bool → (List Int) → Int → Int → Bool → Option R) : Option R :=
  bif v3 != v5 then knormal v0 v1 v7 v8 v9 true else bif !eqD Ty.bool v4 v6 then knormal v0 v1 v7 v8 v9 true else bif v2 then knormal v0 v1 v7 v8 v9 !v4 else knormal v0 v1 v7 v8 v9 false
def law1_WordExpands.s2000012 {R : Type} (v0 : Int) (v1 : Bool) (v2 : Bool) (v3 : Int) (v4 : Bool) (v5 : Int) (v6 : Bool) (v7 : List Int) (v8 : Int) (v9 : Int) (knormal : Int → Bool → (List Int) → Int → Int → Bool → Option R) : Option R :=
  knormal v0 v1 v7 v8 v9 (v3 != v5 || (!eqD Ty.bool v4 v6 || v2 && !v4))
theorem law1_WordExpands.s2000012_eq {R : Type} (v0 : Int) (v1 : Bool) (v2 : Bool) (v3 : Int) (v4 : Bool) (v5 : Int) (v6 : Bool) (v7 : List Int) (v8 : Int) (v9 : Int) (knormal : Int → Bool → (List Int) → Int → Int → Bool → Option R) : law1_WordExpands.s2000012 v0 v1 v2 v3 v4 v5 v6 v7 v8 v9 knormal = law1_WordExpands.o2000012 v0 v1 v2 v3 v4 v5 v6 v7 v8 v9 knormal := by
  unfold law1_WordExpands.s2000012 law1_WordExpands.o2000012
  (cases hc : v3 != v5 with | false => (cases hc : !eqD Ty.bool v4 v6 with | false => (cases hc : v2 with | false => (first | rfl | simp_all) | true => (first | rfl | simp_all)) | true => (first | rfl | simp_all)) | true => (first | rfl | simp_all))
def law1_WordExpands.T0 : Tm := ⟨fill 0 116 [(1, Sl.data (Ty.int IntKind.u32)), (2, Sl.data Ty.bool), (39, Sl.data (Ty.sl (Ty.int IntKind.u32))), (40, Sl.data (Ty.int IntKind.i64)), (41, Sl.data (Ty.int IntKind.i64))], []⟩
def law1_WordExpands.X0_ret : Tm := ⟨fill 0 116 [(1, Sl.data (Ty.int IntKind.u32)), (10, Sl.data Ty.bool)], []⟩
def law1_WordExpands.X0_exit0 : Tm := ⟨fill 0 116 [(1, Sl.data (Ty.int IntKind.u32))], []⟩
def law1_WordExpands.round0 {R : Type} (v0 : Int) (v1 : Bool) (v2 : List Int) (v3 : Int) (v4 : Int) (next : Int → Bool → (List Int) → Int → Int → Option R) (kret : Int → Bool → Option R) (kexit0 : Int → Option R) : Option R :=
  bif decide (v4 < v3) then bif decide ((0 : Int) ≤ v4) && decide (v4 < ↑(List.length v2)) then bif word_Expand.pre (List.getD v2 (Int.toNat v4) (0 : Int)) v1 then bif ref1_Expand.pre (List.getD v2 (Int.toNat v4) (0 : Int)) v1 then bif Prod.fst (word_Expand (List.getD v2 (Int.toNat v4) (0 : Int)) v1) != Prod.fst (ref1_Expand (List.getD v2 (Int.toNat v4) (0 : Int)) v1) || (!eqD Ty.bool (Prod.fst (Prod.snd (word_Expand (List.getD v2 (Int.toNat v4) (0 : Int)) v1))) (Prod.fst (Prod.snd (ref1_Expand (List.getD v2 (Int.toNat v4) (0 : Int)) v1))) || !eqD Ty.bool (Prod.snd (Prod.snd (word_Expand (List.getD v2 (Int.toNat v4) (0 : Int)) v1))) (Prod.snd (Prod.snd (ref1_Expand (List.getD v2 (Int.toNat v4) (0 : Int)) v1)))) then kret v0 false else bif word_Compress.pre (Prod.fst (word_Expand (List.getD v2 (Int.toNat v4) (0 : Int)) v1)) then bif ref1_Compress.pre (Prod.fst (word_Expand (List.getD v2 (Int.toNat v4) (0 : Int)) v1)) then bif Prod.fst (word_Compress (Prod.fst (word_Expand (List.getD v2 (Int.toNat v4) (0 : Int)) v1))) != Prod.fst (ref1_Compress (Prod.fst (word_Expand (List.getD v2 (Int.toNat v4) (0 : Int)) v1))) || (!eqD Ty.bool (Prod.snd (word_Compress (Prod.fst (word_Expand (List.getD v2 (Int.toNat v4) (0 : Int)) v1)))) (Prod.snd (ref1_Compress (Prod.fst (word_Expand (List.getD v2 (Int.toNat v4) (0 : Int)) v1)))) || Prod.snd (Prod.snd (word_Expand (List.getD v2 (Int.toNat v4) (0 : Int)) v1)) && !Prod.snd (word_Compress (Prod.fst (word_Expand (List.getD v2 (Int.toNat v4) (0 : Int)) v1)))) then kret v0 false else next v0 v1 v2 v3 (IntKind.wrap IntKind.i64 (v4 + (1 : Int))) else none else none else none else none else none else kexit0 v0
def law1_WordExpands.R0 {R : Type} (kret : Int → Bool → Option R) (kexit0 : Int → Option R) : (Int × Bool × (List Int) × Int × Int) → ((Int × Bool × (List Int) × Int × Int) → Option R) → Option R := fun (v0, v1, v2, v3, v4) next => law1_WordExpands.round0 v0 v1 v2 v3 v4 (fun w0 w1 w2 w3 w4 => next (w0, w1, w2, w3, w4)) kret kexit0
theorem law1_WordExpands.R0_eq {R : Type} (kret : Int → Bool → Option R) (kexit0 : Int → Option R) (v0 : Int) (v1 : Bool) (v2 : List Int) (v3 : Int) (v4 : Int) (next : (Int × Bool × (List Int) × Int × Int) → Option R) : law1_WordExpands.R0 kret kexit0 (v0, v1, v2, v3, v4) next = law1_WordExpands.round0 v0 v1 v2 v3 v4 (fun w0 w1 w2 w3 w4 => next (w0, w1, w2, w3, w4)) kret kexit0 := rfl
def law1_WordExpands.loop0 {R : Type} (v0 : Int) (v1 : Bool) (v2 : List Int) (v3 : Int) (v4 : Int) (kret : Int → Bool → Option R) (kexit0 : Int → Option R) : Option R :=
  open Classical in
  if v3 = v2.length ∧ v3 < 4611686018427387904 ∧ 0 ≤ v4 ∧ v4 ≤ v3 ∧ (∀ x ∈ v2, U32 x) then kexit0 v0 else none
theorem law1_WordExpands.loop0_ok {R : Type} (v0 : Int) (v1 : Bool) (v2 : List Int) (v3 : Int) (v4 : Int) (kret : Int → Bool → Option R) (kexit0 : Int → Option R) (r : R) (h : law1_WordExpands.loop0 v0 v1 v2 v3 v4 kret kexit0 = some r) : ∃ n, lp (law1_WordExpands.R0 kret kexit0) n (v0, v1, v2, v3, v4) = some r := by
  unfold law1_WordExpands.loop0 at h
  split at h <;> try (cases h; done)
  rename_i hc
  obtain ⟨h1, h2, h3, h4, h5⟩ := hc
  rw [← h]
  refine lp_pass (fun i => (v0, v1, v2, v3, i)) (n := v3) ?_ ?_ v4 h3 h4
  · intro i i0 i1 next
    obtain ⟨x, hx, hd⟩ := getD_at (d := (0 : Int)) i0 (h1 ▸ i1)
    have hu : U32 x := h5 x (by
      have : x ∈ v2.drop i.toNat := by rw [hd]; simp
      exact List.mem_of_mem_drop this)
    rw [law1_WordExpands.R0_eq, law1_WordExpands.round0, decide_eq_true i1, decide_eq_true i0, decide_eq_true (h1 ▸ i1 : i < (v2.length : Int)), hx, show word_Expand.pre x v1 = true from rfl, show ref1_Expand.pre x v1 = true from decide_eq_true hu, ref1_Expand, bne_self_eq_false, beq_bool2, beq_bool2, ref1_Compress, bne_self_eq_false, beq_bool2, expand_there hu, wrap_next i0 i1 h2]
    rfl
  · intro next
    rw [law1_WordExpands.R0_eq, law1_WordExpands.round0, decide_eq_false (Int.lt_irrefl _)]
    rfl
def law1_WordExpands.T2000017 : Tm := ⟨fill 0 116 [(23, Sl.data (Ty.int IntKind.u32)), (24, Sl.data Ty.bool), (25, Sl.data (Ty.int IntKind.u32)), (26, Sl.data Ty.bool)], []⟩
def law1_WordExpands.X2000017_normal : Tm := ⟨fill 0 116 [(10, Sl.data Ty.bool)], []⟩
def law1_WordExpands.o2000017 {R : Type} (v0 : Int) (v1 : Bool) (v2 : Int) (v3 : Bool) (knormal : Bool → Option R) : Option R :=
  bif v0 == v2 then knormal (eqD Ty.bool v1 v3) else knormal false
def law1_WordExpands.s2000017 {R : Type} (v0 : Int) (v1 : Bool) (v2 : Int) (v3 : Bool) (knormal : Bool → Option R) : Option R :=
  knormal (v0 == v2 && eqD Ty.bool v1 v3)
theorem law1_WordExpands.s2000017_eq {R : Type} (v0 : Int) (v1 : Bool) (v2 : Int) (v3 : Bool) (knormal : Bool → Option R) : law1_WordExpands.s2000017 v0 v1 v2 v3 knormal = law1_WordExpands.o2000017 v0 v1 v2 v3 knormal := by
  unfold law1_WordExpands.s2000017 law1_WordExpands.o2000017
  (cases hc : v0 == v2 with | false => (first | rfl | simp_all) | true => (first | rfl | simp_all))
def law1_WordExpands.C : Cfg := { rows := [], keep := [(0, [1, 2, 39, 40, 41], []), (1000000, [1, 10], []), (2000008, [1, 2, 13, 14, 15, 16, 17, 18, 39, 40, 41], []), (12000008, [1, 2, 13, 15, 39, 40, 41, 71], []), (2000012, [1, 2, 15, 19, 20, 21, 22, 39, 40, 41], []), (12000012, [1, 2, 39, 40, 41, 96], []), (2000017, [23, 24, 25, 26], []), (12000017, [10], [])], adopt := [] }
def law1_WordExpands.sum2000008 : FrV law1_WordExpands.T2000008.fr × StV law1_WordExpands.T2000008.st → (Ex → S → Option (List DVal)) → Option (List DVal) := fun ((v0, v1, v2, v3, v4, v5, v6, v7, v8, v9, v10, ()), (())) K => law1_WordExpands.s2000008 v0 v1 v2 v3 v4 v5 v6 v7 v8 v9 v10 (fun e0 e1 e2 e3 e4 e5 e6 e7 => K .normal (pack law1_WordExpands.X2000008_normal ((e0, e1, e2, e3, e4, e5, e6, e7, ()), (()))))
def law1_WordExpands.sum2000012 : FrV law1_WordExpands.T2000012.fr × StV law1_WordExpands.T2000012.st → (Ex → S → Option (List DVal)) → Option (List DVal) := fun ((v0, v1, v2, v3, v4, v5, v6, v7, v8, v9, ()), (())) K => law1_WordExpands.s2000012 v0 v1 v2 v3 v4 v5 v6 v7 v8 v9 (fun e0 e1 e2 e3 e4 e5 => K .normal (pack law1_WordExpands.X2000012_normal ((e0, e1, e2, e3, e4, e5, ()), (()))))
def law1_WordExpands.sum2000017 : FrV law1_WordExpands.T2000017.fr × StV law1_WordExpands.T2000017.st → (Ex → S → Option (List DVal)) → Option (List DVal) := fun ((v0, v1, v2, v3, ()), (())) K => law1_WordExpands.s2000017 v0 v1 v2 v3 (fun e0 => K .normal (pack law1_WordExpands.X2000017_normal ((e0, ()), (()))))
def law1_WordExpands.sum0 : FrV law1_WordExpands.T0.fr × StV law1_WordExpands.T0.st → (Ex → S → Option (List DVal)) → Option (List DVal) := fun ((v0, v1, v2, v3, v4, ()), (())) K => law1_WordExpands.loop0 v0 v1 v2 v3 v4 (fun e0 e1 => K .ret (pack law1_WordExpands.X0_ret ((e0, e1, ()), (())))) (fun e0 => K (.exit 0) (pack law1_WordExpands.X0_exit0 ((e0, ()), (()))))
def law1_WordExpands.rnd0 : FrV law1_WordExpands.T0.fr × StV law1_WordExpands.T0.st → (FrV law1_WordExpands.T0.fr × StV law1_WordExpands.T0.st → Option (List DVal)) → (Ex → S → Option (List DVal)) → Option (List DVal) := fun ((v0, v1, v2, v3, v4, ()), (())) next K => law1_WordExpands.round0 v0 v1 v2 v3 v4 (fun w0 w1 w2 w3 w4 => next ((w0, w1, w2, w3, w4, ()), (()))) (fun e0 e1 => K .ret (pack law1_WordExpands.X0_ret ((e0, e1, ()), (())))) (fun e0 => K (.exit 0) (pack law1_WordExpands.X0_exit0 ((e0, ()), (()))))
def law1_WordExpands.L : Nat → Option Sum := fun i => if i = 0 then some (sumOf law1_WordExpands.T0 law1_WordExpands.sum0) else if i = 2000008 then some (sumOf law1_WordExpands.T2000008 law1_WordExpands.sum2000008) else if i = 2000012 then some (sumOf law1_WordExpands.T2000012 law1_WordExpands.sum2000012) else if i = 2000017 then some (sumOf law1_WordExpands.T2000017 law1_WordExpands.sum2000017) else none
theorem law1_WordExpands.rnd0_eq : ∀ v (r : S → Option (List DVal)) (K : Ex → S → Option (List DVal)), exec Try.prog law1_WordExpands.C law1_WordExpands.env law1_WordExpands.L 0 (loopOf Try.f8 0) (pack law1_WordExpands.T0 v) (fun e s' => match e with | .normal => r (trim law1_WordExpands.C 0 s') | e => K e (trim law1_WordExpands.C (0 + 1000000) s')) = law1_WordExpands.rnd0 v (fun v' => r (pack law1_WordExpands.T0 v')) K :=
  fun ((v0, v1, v2, v3, v4, ()), (())) r K => by kernel_rfl
theorem law1_WordExpands.lp0 (K : Ex → S → Option (List DVal)) : ∀ (n : Nat) (v0 : Int) (v1 : Bool) (v2 : List Int) (v3 : Int) (v4 : Int), lp (fun v next => law1_WordExpands.rnd0 v next K) n ((v0, v1, v2, v3, v4, ()), (())) = lp (law1_WordExpands.R0 (fun e0 e1 => K .ret (pack law1_WordExpands.X0_ret ((e0, e1, ()), (())))) (fun e0 => K (.exit 0) (pack law1_WordExpands.X0_exit0 ((e0, ()), (()))))) n (v0, v1, v2, v3, v4) := by
  intro n
  induction n with
  | zero => intros; rfl
  | succ n ih =>
    intro v0 v1 v2 v3 v4
    show law1_WordExpands.round0 v0 v1 v2 v3 v4 (fun w0 w1 w2 w3 w4 => lp (fun v next => law1_WordExpands.rnd0 v next K) n ((w0, w1, w2, w3, w4, ()), (()))) (fun e0 e1 => K .ret (pack law1_WordExpands.X0_ret ((e0, e1, ()), (())))) (fun e0 => K (.exit 0) (pack law1_WordExpands.X0_exit0 ((e0, ()), (())))) = law1_WordExpands.round0 v0 v1 v2 v3 v4 (fun w0 w1 w2 w3 w4 => lp (law1_WordExpands.R0 (fun e0 e1 => K .ret (pack law1_WordExpands.X0_ret ((e0, e1, ()), (())))) (fun e0 => K (.exit 0) (pack law1_WordExpands.X0_exit0 ((e0, ()), (()))))) n (w0, w1, w2, w3, w4)) (fun e0 e1 => K .ret (pack law1_WordExpands.X0_ret ((e0, e1, ()), (())))) (fun e0 => K (.exit 0) (pack law1_WordExpands.X0_exit0 ((e0, ()), (()))))
    simp only [ih]
theorem law1_WordExpands.sum0_ok : SumOk Try.prog law1_WordExpands.C law1_WordExpands.env law1_WordExpands.L 0 (loopOf Try.f8 0) := sumOk_lp (T := law1_WordExpands.T0) (rnd := law1_WordExpands.rnd0) (f := law1_WordExpands.sum0) rfl law1_WordExpands.rnd0_eq fun ((v0, v1, v2, v3, v4, ()), (())) K r h => by
  obtain ⟨n, hn⟩ := law1_WordExpands.loop0_ok v0 v1 v2 v3 v4 (fun e0 e1 => K .ret (pack law1_WordExpands.X0_ret ((e0, e1, ()), (())))) (fun e0 => K (.exit 0) (pack law1_WordExpands.X0_exit0 ((e0, ()), (())))) r h
  exact ⟨n, by rw [law1_WordExpands.lp0]; exact hn⟩
theorem law1_WordExpands.x2000008 : ∀ v (K : Ex → S → Option (List DVal)), exec1 Try.prog law1_WordExpands.C law1_WordExpands.env law1_WordExpands.L (spotOf Try.f8 2000008).2.1 (spotOf Try.f8 2000008).2.2 (pack law1_WordExpands.T2000008 v) (fun e s' => K e (trim law1_WordExpands.C (2000008 + 10000000) s')) = (fun (((v0, v1, v2, v3, v4, v5, v6, v7, v8, v9, v10, ()), (())) : FrV law1_WordExpands.T2000008.fr × StV law1_WordExpands.T2000008.st) => law1_WordExpands.o2000008 v0 v1 v2 v3 v4 v5 v6 v7 v8 v9 v10 (fun e0 e1 e2 e3 e4 e5 e6 e7 => K .normal (pack law1_WordExpands.X2000008_normal ((e0, e1, e2, e3, e4, e5, e6, e7, ()), (()))))) v :=
  fun ((v0, v1, v2, v3, v4, v5, v6, v7, v8, v9, v10, ()), (())) K => by kernel_rfl
theorem law1_WordExpands.sum2000008_ok : SpotOk Try.prog law1_WordExpands.C law1_WordExpands.env law1_WordExpands.L (spotOf Try.f8 2000008) := spotOk_of (T := law1_WordExpands.T2000008) (q := 2000008) (f := law1_WordExpands.sum2000008) (by kernel_rfl) (by kernel_rfl) fun ((v0, v1, v2, v3, v4, v5, v6, v7, v8, v9, v10, ()), (())) K r h => (law1_WordExpands.x2000008 _ K).trans ((law1_WordExpands.s2000008_eq v0 v1 v2 v3 v4 v5 v6 v7 v8 v9 v10 (fun e0 e1 e2 e3 e4 e5 e6 e7 => K .normal (pack law1_WordExpands.X2000008_normal ((e0, e1, e2, e3, e4, e5, e6, e7, ()), (()))))).symm.trans h)
theorem law1_WordExpands.x2000012 : ∀ v (K : Ex → S → Option (List DVal)), exec1 Try.prog law1_WordExpands.C law1_WordExpands.env law1_WordExpands.L (spotOf Try.f8 2000012).2.1 (spotOf Try.f8 2000012).2.2 (pack law1_WordExpands.T2000012 v) (fun e s' => K e (trim law1_WordExpands.C (2000012 + 10000000) s')) = (fun (((v0, v1, v2, v3, v4, v5, v6, v7, v8, v9, ()), (())) : FrV law1_WordExpands.T2000012.fr × StV law1_WordExpands.T2000012.st) => law1_WordExpands.o2000012 v0 v1 v2 v3 v4 v5 v6 v7 v8 v9 (fun e0 e1 e2 e3 e4 e5 => K .normal (pack law1_WordExpands.X2000012_normal ((e0, e1, e2, e3, e4, e5, ()), (()))))) v :=
  fun ((v0, v1, v2, v3, v4, v5, v6, v7, v8, v9, ()), (())) K => by kernel_rfl
theorem law1_WordExpands.sum2000012_ok : SpotOk Try.prog law1_WordExpands.C law1_WordExpands.env law1_WordExpands.L (spotOf Try.f8 2000012) := spotOk_of (T := law1_WordExpands.T2000012) (q := 2000012) (f := law1_WordExpands.sum2000012) (by kernel_rfl) (by kernel_rfl) fun ((v0, v1, v2, v3, v4, v5, v6, v7, v8, v9, ()), (())) K r h => (law1_WordExpands.x2000012 _ K).trans ((law1_WordExpands.s2000012_eq v0 v1 v2 v3 v4 v5 v6 v7 v8 v9 (fun e0 e1 e2 e3 e4 e5 => K .normal (pack law1_WordExpands.X2000012_normal ((e0, e1, e2, e3, e4, e5, ()), (()))))).symm.trans h)
theorem law1_WordExpands.x2000017 : ∀ v (K : Ex → S → Option (List DVal)), exec1 Try.prog law1_WordExpands.C law1_WordExpands.env law1_WordExpands.L (spotOf Try.f8 2000017).2.1 (spotOf Try.f8 2000017).2.2 (pack law1_WordExpands.T2000017 v) (fun e s' => K e (trim law1_WordExpands.C (2000017 + 10000000) s')) = (fun (((v0, v1, v2, v3, ()), (())) : FrV law1_WordExpands.T2000017.fr × StV law1_WordExpands.T2000017.st) => law1_WordExpands.o2000017 v0 v1 v2 v3 (fun e0 => K .normal (pack law1_WordExpands.X2000017_normal ((e0, ()), (()))))) v :=
  fun ((v0, v1, v2, v3, ()), (())) K => by kernel_rfl
theorem law1_WordExpands.sum2000017_ok : SpotOk Try.prog law1_WordExpands.C law1_WordExpands.env law1_WordExpands.L (spotOf Try.f8 2000017) := spotOk_of (T := law1_WordExpands.T2000017) (q := 2000017) (f := law1_WordExpands.sum2000017) (by kernel_rfl) (by kernel_rfl) fun ((v0, v1, v2, v3, ()), (())) K r h => (law1_WordExpands.x2000017 _ K).trans ((law1_WordExpands.s2000017_eq v0 v1 v2 v3 (fun e0 => K .normal (pack law1_WordExpands.X2000017_normal ((e0, ()), (()))))).symm.trans h)
def law1_WordExpands.tree {R : Type} (a0 : Int) (a1 : Int) (a2 : Bool) (a3 : Int) (a4 : Int) (ret : Bool → Option R) : Option R :=
  law1_WordExpands.loop0 a1 a2 [a0, bitop BinOp.and IntKind.u32 a0 (4095 : Int), bitop BinOp.or IntKind.u32 (IntKind.wrap IntKind.u32 a3) (shl IntKind.u32 (IntKind.wrap IntKind.u32 (bitop BinOp.and IntKind.u8 a4 (3 : Int))) (8 : Int))] (3 : Int) (0 : Int) (fun e0 e1 => ret e1) fun e0 => bif word_Compress.pre e0 then bif ref1_Compress.pre e0 then ret (Prod.fst (word_Compress e0) == Prod.fst (ref1_Compress e0) && eqD Ty.bool (Prod.snd (word_Compress e0)) (Prod.snd (ref1_Compress e0))) else none else none
theorem law1_WordExpands.eq (a0 : Int) (a1 : Int) (a2 : Bool) (a3 : Int) (a4 : Int) : body Try.prog law1_WordExpands.C law1_WordExpands.env law1_WordExpands.L Try.f8 [⟨Ty.int IntKind.u32, a0⟩, ⟨Ty.int IntKind.u32, a1⟩, ⟨Ty.bool, a2⟩, ⟨Ty.int IntKind.u8, a3⟩, ⟨Ty.int IntKind.u8, a4⟩] = law1_WordExpands.tree a0 a1 a2 a3 a4 (fun r0 => some ([⟨Ty.bool, r0⟩] : List DVal)) := by kernel_rfl
def law1_WordExpands.pre (i v : Int) (c : Bool) (x k : Int) : Bool := decide (0 ≤ i ∧ i < 4294967296) && decide (0 ≤ v ∧ v < 4294967296)
def law1_WordExpands (i v : Int) (c : Bool) (x k : Int) : Bool := true
theorem law1_WordExpands.nice {R : Type} (i v : Int) (c : Bool) (x k : Int) (hp : law1_WordExpands.pre i v c x k = true) (ret : Bool → Option R) : law1_WordExpands.tree i v c x k ret = ret (law1_WordExpands i v c x k) := by
  unfold law1_WordExpands.pre at hp
  simp only [Bool.and_eq_true, decide_eq_true_eq] at hp
  obtain ⟨ha, hb⟩ := hp
  have ra : ∀ x y : Int, U32 (bitop .and .u32 x y) := fun x y => by rw [and_bv]; exact bv_lt _
  have ro : ∀ x y : Int, U32 (bitop .or .u32 x y) := fun x y => by rw [or_bv]; exact bv_lt _
  unfold law1_WordExpands.tree law1_WordExpands.loop0
  rw [if_pos ⟨rfl, by decide, by decide, by decide, fun x hx => by
    simp only [List.mem_cons, List.not_mem_nil, or_false] at hx
    rcases hx with rfl | rfl | rfl
    · exact ha
    · exact ra _ _
    · exact ro _ _⟩]
  dsimp only
  rw [ref1_Compress, show word_Compress.pre v = true from rfl, show ref1_Compress.pre v = true from rfl, beq_bool2, beq_self_eq_true]
  rfl

def law1_WordExpands.ctr : Ctr := ctrOf [Ty.int IntKind.u32, Ty.int IntKind.u32, Ty.bool, Ty.int IntKind.u8, Ty.int IntKind.u8] fun x => .guard (law1_WordExpands.pre (x.1) (x.2.1) (x.2.2.1) (x.2.2.2.1) (x.2.2.2.2.1)) (.ret [⟨Ty.bool, law1_WordExpands (x.1) (x.2.1) (x.2.2.1) (x.2.2.2.1) (x.2.2.2.2.1)⟩])
theorem law1_WordExpands.known : Known Try.prog 8 law1_WordExpands.ctr :=
  known_plain law1_WordExpands.envOk mixed Try.func8 (by kernel_rfl) (by kernel_rfl) (byId (by kernel_rfl : loopIds Try.f8 = [0]) (by intro q hq; simp only [List.mem_cons, List.not_mem_nil, or_false] at hq; subst hq; first | exact law1_WordExpands.sum0_ok)) (bySpot (ids := [2000008, 2000012, 2000017]) (by kernel_rfl) (by intro q hq; simp only [List.mem_cons, List.not_mem_nil, or_false] at hq; rcases hq with rfl | rfl | rfl <;> first | exact law1_WordExpands.sum2000008_ok | exact law1_WordExpands.sum2000012_ok | exact law1_WordExpands.sum2000017_ok)) fun x rs h => by
    obtain ⟨a0, a1, a2, a3, a4, u⟩ := x
    cases u
    simp only [Cmd.val_guard, Cmd.val_ret] at h
    split at h <;> try (cases h; done)
    rename_i hp
    exact (law1_WordExpands.eq a0 a1 a2 a3 a4).trans ((law1_WordExpands.nice a0 a1 a2 a3 a4 hp (fun r0 => some ([⟨Ty.bool, r0⟩] : List DVal))).trans h)
end
end Go.D.Ytbcjiicaekfjlaa
