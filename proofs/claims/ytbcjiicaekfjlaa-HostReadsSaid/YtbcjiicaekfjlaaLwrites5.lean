import Derived.Test.YtbcjiicaekfjlaaChecked
import Derived.Test.YtbcjiicaekfjlaaDX
import Derived.KernelRfl
import Derived.Test.YtbcjiicaekfjlaaLbytes5
namespace Go.D.Ytbcjiicaekfjlaa
open Go.Proofs
set_option linter.unusedVariables false
set_option linter.unusedSimpArgs false
set_option maxRecDepth 100000
noncomputable section


/-! ### law5_HostWrites -/
def law5_HostWrites.env : Env := envCons 14 law5_known.ctr <| envCons 16 host_Right.ctr <| envCons 17 ref5_Right.ctr <| envCons 18 host_Put.ctr <| envCons 19 ref5_Put.ctr <| envCons 20 host_Read.ctr <| envNil
theorem law5_HostWrites.envOk : EnvOk Try.prog law5_HostWrites.env := envOk_cons law5_known.known (envOk_cons host_Right.known (envOk_cons ref5_Right.known (envOk_cons host_Put.known (envOk_cons ref5_Put.known (envOk_cons host_Read.known (envOk_nil _))))))
theorem bitop_or_add (a b i : Nat) (ha : a < 2 ^ i) (hb : b * 2 ^ i + a < 4294967296) : bitop .or .u32 (a : Int) ((b * 2 ^ i : Nat) : Int) = ((b * 2 ^ i + a : Nat) : Int) := by
  have h : (BitVec.ofInt 32 (a : Int) ||| BitVec.ofInt 32 ((b * 2 ^ i : Nat) : Int)).toNat = b * 2 ^ i + a := by
    rw [BitVec.ofInt_natCast, BitVec.ofInt_natCast, BitVec.toNat_or, BitVec.toNat_ofNat, BitVec.toNat_ofNat, Nat.mod_eq_of_lt (by omega), Nat.mod_eq_of_lt (by omega), Nat.or_comm, ← Nat.shiftLeft_eq, ← Nat.shiftLeft_add_eq_or_of_lt ha]
  change IntKind.wrap .u32 ((BitVec.ofInt 32 (a : Int) ||| BitVec.ofInt 32 ((b * 2 ^ i : Nat) : Int)).toNat : Int) = _
  rw [h, IntKind.wrap_u32]
  omega
theorem shl_byte (c : Nat) (i : Nat) (hi : i ≤ 32) (hc : c * 2 ^ i < 4294967296) : shl .u32 (IntKind.wrap .u32 (c : Int)) (i : Int) = ((c * 2 ^ i : Nat) : Int) := by
  have h1 : c < 4294967296 := Nat.lt_of_le_of_lt (Nat.le_mul_of_pos_right c (Nat.two_pow_pos i)) hc
  have e : IntKind.wrap .u32 (c : Int) = c := by rw [IntKind.wrap_u32]; omega
  rw [e]
  change IntKind.wrap .u32 ((c : Int) * 2 ^ (min ((i : Int).toNat) 32)) = _
  rw [show min ((i : Int).toNat) 32 = i by omega, show ((c : Int) * 2 ^ i) = ((c * 2 ^ i : Nat) : Int) by push_cast; rfl, IntKind.wrap_u32]
  omega
theorem byte_of (M : Nat) (d : Nat) : IntKind.wrap .u8 ((M : Int) / (d : Int)) = ((M / d % 256 : Nat) : Int) := by
  rw [IntKind.wrap_u8, Int.natCast_emod, Int.natCast_ediv]
  rfl
theorem imm_back {m : Int} (hm : U32 m) : bitop .or .u32 (bitop .or .u32 (bitop .or .u32 (bitop .or .u32 0 (shl .u32 (IntKind.wrap .u32 (IntKind.wrap .u8 (shr .u32 m 0))) 0)) (shl .u32 (IntKind.wrap .u32 (IntKind.wrap .u8 (shr .u32 m 8))) 8)) (shl .u32 (IntKind.wrap .u32 (IntKind.wrap .u8 (shr .u32 m 16))) 16)) (shl .u32 (IntKind.wrap .u32 (IntKind.wrap .u8 (shr .u32 m 24))) 24) = m := by
  obtain ⟨h0, h1⟩ := hm
  obtain ⟨M, rfl⟩ := Int.eq_ofNat_of_zero_le h0
  have hM : M < 4294967296 := by omega
  rw [shr_u32_0, shr_u32_8, shr_u32_16, shr_u32_24]
  have b0 : IntKind.wrap .u8 (M : Int) = ((M % 256 : Nat) : Int) := by rw [IntKind.wrap_u8, Int.natCast_emod]; rfl
  have b1 : IntKind.wrap .u8 ((M : Int) / 256) = ((M / 256 % 256 : Nat) : Int) := byte_of M 256
  have b2 : IntKind.wrap .u8 ((M : Int) / 65536) = ((M / 65536 % 256 : Nat) : Int) := byte_of M 65536
  have b3 : IntKind.wrap .u8 ((M : Int) / 16777216) = ((M / 16777216 % 256 : Nat) : Int) := byte_of M 16777216
  rw [b0, b1, b2, b3]
  have s0 := shl_byte (M % 256) 0 (by omega) (by omega)
  have s1 := shl_byte (M / 256 % 256) 8 (by omega) (by omega)
  have s2 := shl_byte (M / 65536 % 256) 16 (by omega) (by omega)
  have s3 := shl_byte (M / 16777216 % 256) 24 (by omega) (by omega)
  have o0 := bitop_or_add 0 (M % 256) 0 (by omega) (by omega)
  have o1 := bitop_or_add (M % 256) (M / 256 % 256) 8 (by omega) (by omega)
  have o2 := bitop_or_add (M / 256 % 256 * 2 ^ 8 + M % 256) (M / 65536 % 256) 16 (by omega) (by omega)
  have o3 := bitop_or_add (M / 65536 % 256 * 2 ^ 16 + (M / 256 % 256 * 2 ^ 8 + M % 256)) (M / 16777216 % 256) 24 (by omega) (by omega)
  have z0 : ((M % 256 * 2 ^ 0 + 0 : Nat) : Int) = ((M % 256 : Nat) : Int) := by simp
  rw [z0] at o0
  have t0 : shl .u32 (IntKind.wrap .u32 (((M % 256 : Nat) : Int))) 0 = ((M % 256 * 2 ^ 0 : Nat) : Int) := s0
  have t1 : shl .u32 (IntKind.wrap .u32 (((M / 256 % 256 : Nat) : Int))) 8 = ((M / 256 % 256 * 2 ^ 8 : Nat) : Int) := s1
  have t2 : shl .u32 (IntKind.wrap .u32 (((M / 65536 % 256 : Nat) : Int))) 16 = ((M / 65536 % 256 * 2 ^ 16 : Nat) : Int) := s2
  have t3 : shl .u32 (IntKind.wrap .u32 (((M / 16777216 % 256 : Nat) : Int))) 24 = ((M / 16777216 % 256 * 2 ^ 24 : Nat) : Int) := s3
  have p0 : bitop .or .u32 0 ((M % 256 * 2 ^ 0 : Nat) : Int) = ((M % 256 : Nat) : Int) := o0
  rw [t0, t1, t2, t3, p0, o1, o2, o3]
  congr 1
  omega
theorem reg_range {r : Int} {u : Bool} (h : host_register r u = true) : 0 ≤ r ∧ r < 32 := by
  unfold host_register at h
  simp only [Bool.or_eq_true, Bool.and_eq_true, decide_eq_true_eq, beq_iff_eq] at h
  omega
theorem right_range {o D A B C m : Int} (h : host_Right (o, D, A, B, C, m, ()) = true) : (1 ≤ o ∧ o < 32) ∧ (0 ≤ D ∧ D < 32) ∧ (0 ≤ A ∧ A < 32) ∧ (0 ≤ B ∧ B < 32) ∧ (0 ≤ C ∧ C < 32) := by
  unfold host_Right at h
  dsimp only at h
  cases hc : decide (o < 1) || (decide (o ≥ 32) || o == 31 && (decide (m < 1) || decide (m > 99))) with
  | true => rw [hc] at h; cases h
  | false =>
    rw [hc] at h
    simp only [Bool.cond_false, Bool.and_eq_true] at h
    simp only [Bool.or_eq_false_iff, decide_eq_false_iff_not] at hc
    exact ⟨by omega, reg_range h.1, reg_range h.2.1, reg_range h.2.2.1, reg_range h.2.2.2.1⟩
theorem byte_back {x : Int} (h : 0 ≤ x ∧ x < 32) : IntKind.wrap .i64 (IntKind.wrap .u8 x) = x := by
  rw [IntKind.wrap_u8, IntKind.wrap_i64]
  omega
theorem read_put {h : Hos} (hr : host_Right h = true) (hm : U32 h.2.2.2.2.2.1) : host_Read (putBytes h) = (h, 0) := by
  obtain ⟨o, D, A, B, C, m, u⟩ := h
  obtain ⟨h1, h2, h3, h4, h5⟩ := right_range hr
  have e : readHost (putBytes (o, D, A, B, C, m, ())) = (o, D, A, B, C, m, ()) := by
    show (IntKind.wrap .i64 (IntKind.wrap .u8 o), IntKind.wrap .i64 (IntKind.wrap .u8 D), IntKind.wrap .i64 (IntKind.wrap .u8 A), IntKind.wrap .i64 (IntKind.wrap .u8 B), IntKind.wrap .i64 (IntKind.wrap .u8 C), bitop .or .u32 (bitop .or .u32 (bitop .or .u32 (bitop .or .u32 0 (shl .u32 (IntKind.wrap .u32 (IntKind.wrap .u8 (shr .u32 m 0))) 0)) (shl .u32 (IntKind.wrap .u32 (IntKind.wrap .u8 (shr .u32 m 8))) 8)) (shl .u32 (IntKind.wrap .u32 (IntKind.wrap .u8 (shr .u32 m 16))) 16)) (shl .u32 (IntKind.wrap .u32 (IntKind.wrap .u8 (shr .u32 m 24))) 24), ()) = _
    rw [byte_back ⟨by omega, h1.2⟩, byte_back h2, byte_back h3, byte_back h4, byte_back h5, imm_back hm]
  unfold host_Read
  rw [e, hr]
  rfl
theorem eqD_host (x : Hos) : eqD HoT x x = true := by
  obtain ⟨o, D, A, B, C, m, u⟩ := x
  show ((o == o) && ((D == D) && ((A == A) && ((B == B) && ((C == C) && ((m == m) && true)))))) = true
  simp
theorem eqD_bools (b : Bool) : eqD .bool b b = true := by cases b <;> rfl
def law5_HostWrites.T2000009 : Tm := ⟨fill 0 148 [(19, Sl.ptr (19 : Nat) (nilOf Step)), (111, Sl.data (Ty.sl HoT)), (112, Sl.data (Ty.int IntKind.i64)), (113, Sl.data (Ty.int IntKind.i64))], [{ k := (19 : Nat), t := HoT, vir := false }]⟩
def law5_HostWrites.X2000009_normal : Tm := ⟨fill 0 148 [(19, Sl.ptr (19 : Nat) (nilOf Step)), (111, Sl.data (Ty.sl HoT)), (112, Sl.data (Ty.int IntKind.i64)), (113, Sl.data (Ty.int IntKind.i64)), (130, Sl.data Ty.bool)], [{ k := (19 : Nat), t := HoT, vir := false }]⟩
def law5_HostWrites.o2000009 {R : Type} (v0 : List (Int × Int × Int × Int × Int × Int × Unit)) (v1 : Int) (v2 : Int) (v3 : Int × Int × Int × Int × Int × Int × Unit) (knormal : (List (Int × Int × Int × Int × Int × Int × Unit)) → Int → Int → Bool → (Int × Int × Int × Int × Int × Int × Unit) → Option R) : Option R :=
  bif !eqD Ty.bool (host_Right v3) (ref5_Right v3) then knormal v0 v1 v2 true v3 else knormal v0 v1 v2 (!ByteArray.toList (bytesOf (host_Put v3)) == ByteArray.toList (bytesOf (ref5_Put v3))) v3
def law5_HostWrites.s2000009 {R : Type} (v0 : List (Int × Int × Int × Int × Int × Int × Unit)) (v1 : Int) (v2 : Int) (v3 : Int × Int × Int × Int × Int × Int × Unit) (knormal : (List (Int × Int × Int × Int × Int × Int × Unit)) → Int → Int → Bool → (Int × Int × Int × Int × Int × Int × Unit) → Option R) : Option R :=
  knormal v0 v1 v2 (!eqD Ty.bool (host_Right v3) (ref5_Right v3) || !ByteArray.toList (bytesOf (host_Put v3)) == ByteArray.toList (bytesOf (ref5_Put v3))) v3
theorem law5_HostWrites.s2000009_eq {R : Type} (v0 : List (Int × Int × Int × Int × Int × Int × Unit)) (v1 : Int) (v2 : Int) (v3 : Int × Int × Int × Int × Int × Int × Unit) (knormal : (List (Int × Int × Int × Int × Int × Int × Unit)) → Int → Int → Bool → (Int × Int × Int × Int × Int × Int × Unit) → Option R) : law5_HostWrites.s2000009 v0 v1 v2 v3 knormal = law5_HostWrites.o2000009 v0 v1 v2 v3 knormal := by
  unfold law5_HostWrites.s2000009 law5_HostWrites.o2000009
  (cases hc : !eqD Ty.bool (host_Right v3) (ref5_Right v3) with | false => (first | rfl | simp_all) | true => (first | rfl | simp_all))
def law5_HostWrites.T2000013 : Tm := ⟨fill 0 148 [(19, Sl.ptr (19 : Nat) (nilOf Step)), (20, Sl.ptr (20 : Nat) (nilOf Step)), (21, Sl.data (Ty.int IntKind.i64)), (111, Sl.data (Ty.sl HoT)), (112, Sl.data (Ty.int IntKind.i64)), (113, Sl.data (Ty.int IntKind.i64))], [{ k := (19 : Nat), t := HoT, vir := false }, { k := (20 : Nat), t := HoT, vir := false }]⟩
def law5_HostWrites.X2000013_normal : Tm := ⟨fill 0 148 [(111, Sl.data (Ty.sl HoT)), (112, Sl.data (Ty.int IntKind.i64)), (113, Sl.data (Ty.int IntKind.i64)), (146, Sl.data Ty.bool)], []⟩
def law5_HostWrites.o2000013 {R : Type} (v0 : Int) (v1 : List (Int × Int × Int × Int × Int × Int × Unit)) (v2 : Int) (v3 : Int) (v4 : Int × Int × Int × Int × Int × Int × Unit) (v5 : Int × Int × Int × Int × Int × Int × Unit) (knormal : (List (Int × Int × Int × Int × Int × Int × Unit)) → Int → Int → Bool → Option R) : Option R :=
  bif v0 != (0 : Int) then knormal v1 v2 v3 true else knormal v1 v2 v3 !eqD HoT v5 v4
def law5_HostWrites.s2000013 {R : Type} (v0 : Int) (v1 : List (Int × Int × Int × Int × Int × Int × Unit)) (v2 : Int) (v3 : Int) (v4 : Int × Int × Int × Int × Int × Int × Unit) (v5 : Int × Int × Int × Int × Int × Int × Unit) (knormal : (List (Int × Int × Int × Int × Int × Int × Unit)) → Int → Int → Bool → Option R) : Option R :=
  knormal v1 v2 v3 (v0 != (0 : Int) || !eqD HoT v5 v4)
theorem law5_HostWrites.s2000013_eq {R : Type} (v0 : Int) (v1 : List (Int × Int × Int × Int × Int × Int × Unit)) (v2 : Int) (v3 : Int) (v4 : Int × Int × Int × Int × Int × Int × Unit) (v5 : Int × Int × Int × Int × Int × Int × Unit) (knormal : (List (Int × Int × Int × Int × Int × Int × Unit)) → Int → Int → Bool → Option R) : law5_HostWrites.s2000013 v0 v1 v2 v3 v4 v5 knormal = law5_HostWrites.o2000013 v0 v1 v2 v3 v4 v5 knormal := by
  unfold law5_HostWrites.s2000013 law5_HostWrites.o2000013
  (cases hc : v0 != (0 : Int) with | false => (first | rfl | simp_all) | true => (first | rfl | simp_all))
def law5_HostWrites.T4000001 : Tm := ⟨fill 0 148 [(111, Sl.data (Ty.sl HoT)), (112, Sl.data (Ty.int IntKind.i64)), (113, Sl.data (Ty.int IntKind.i64))], []⟩
def law5_HostWrites.X4000001_ret : Tm := ⟨fill 0 148 [(14, Sl.data Ty.bool), (111, Sl.data (Ty.sl HoT)), (112, Sl.data (Ty.int IntKind.i64)), (113, Sl.data (Ty.int IntKind.i64))], []⟩
def law5_HostWrites.X4000001_normal : Tm := ⟨fill 0 148 [(111, Sl.data (Ty.sl HoT)), (112, Sl.data (Ty.int IntKind.i64)), (113, Sl.data (Ty.int IntKind.i64))], []⟩
def law5_HostWrites.o4000001 {R : Type} (v0 : List (Int × Int × Int × Int × Int × Int × Unit)) (v1 : Int) (v2 : Int) (kret : Bool → (List (Int × Int × Int × Int × Int × Int × Unit)) → Int → Int → Option R) (knormal : (List (Int × Int × Int × Int × Int × Int × Unit)) → Int → Int → Option R) : Option R :=
  bif decide ((0 : Int) ≤ v2) && decide (v2 < ↑(List.length v0)) then bif !eqD Ty.bool (host_Right (List.getD v0 (Int.toNat v2) (Ty.dflt HoT))) (ref5_Right (List.getD v0 (Int.toNat v2) (Ty.dflt HoT))) || !ByteArray.toList (bytesOf (host_Put (List.getD v0 (Int.toNat v2) (Ty.dflt HoT)))) == ByteArray.toList (bytesOf (ref5_Put (List.getD v0 (Int.toNat v2) (Ty.dflt HoT)))) then kret false v0 v1 v2 else bif !ref5_Right (List.getD v0 (Int.toNat v2) (Ty.dflt HoT)) then knormal v0 v1 v2 else bif Prod.snd (host_Read (host_Put (List.getD v0 (Int.toNat v2) (Ty.dflt HoT)))) != (0 : Int) || !eqD HoT (Prod.fst (host_Read (host_Put (List.getD v0 (Int.toNat v2) (Ty.dflt HoT))))) (List.getD v0 (Int.toNat v2) (Ty.dflt HoT)) then kret false v0 v1 v2 else knormal v0 v1 v2 else none
def law5_HostWrites.s4000001 {R : Type} (v0 : List (Int × Int × Int × Int × Int × Int × Unit)) (v1 : Int) (v2 : Int) (kret : Bool → (List (Int × Int × Int × Int × Int × Int × Unit)) → Int → Int → Option R) (knormal : (List (Int × Int × Int × Int × Int × Int × Unit)) → Int → Int → Option R) : Option R :=
  bif decide ((0 : Int) ≤ v2) && decide (v2 < ↑(List.length v0)) then bif !eqD Ty.bool (host_Right (List.getD v0 (Int.toNat v2) (Ty.dflt HoT))) (ref5_Right (List.getD v0 (Int.toNat v2) (Ty.dflt HoT))) || !ByteArray.toList (bytesOf (host_Put (List.getD v0 (Int.toNat v2) (Ty.dflt HoT)))) == ByteArray.toList (bytesOf (ref5_Put (List.getD v0 (Int.toNat v2) (Ty.dflt HoT)))) || !(!ref5_Right (List.getD v0 (Int.toNat v2) (Ty.dflt HoT)) || !(Prod.snd (host_Read (host_Put (List.getD v0 (Int.toNat v2) (Ty.dflt HoT)))) != (0 : Int) || !eqD HoT (Prod.fst (host_Read (host_Put (List.getD v0 (Int.toNat v2) (Ty.dflt HoT))))) (List.getD v0 (Int.toNat v2) (Ty.dflt HoT)))) && (!!ref5_Right (List.getD v0 (Int.toNat v2) (Ty.dflt HoT)) && (Prod.snd (host_Read (host_Put (List.getD v0 (Int.toNat v2) (Ty.dflt HoT)))) != (0 : Int) || !eqD HoT (Prod.fst (host_Read (host_Put (List.getD v0 (Int.toNat v2) (Ty.dflt HoT))))) (List.getD v0 (Int.toNat v2) (Ty.dflt HoT)))) then kret false v0 v1 v2 else bif !eqD Ty.bool (host_Right (List.getD v0 (Int.toNat v2) (Ty.dflt HoT))) (ref5_Right (List.getD v0 (Int.toNat v2) (Ty.dflt HoT))) || !ByteArray.toList (bytesOf (host_Put (List.getD v0 (Int.toNat v2) (Ty.dflt HoT)))) == ByteArray.toList (bytesOf (ref5_Put (List.getD v0 (Int.toNat v2) (Ty.dflt HoT)))) then none else bif !ref5_Right (List.getD v0 (Int.toNat v2) (Ty.dflt HoT)) || !(Prod.snd (host_Read (host_Put (List.getD v0 (Int.toNat v2) (Ty.dflt HoT)))) != (0 : Int) || !eqD HoT (Prod.fst (host_Read (host_Put (List.getD v0 (Int.toNat v2) (Ty.dflt HoT))))) (List.getD v0 (Int.toNat v2) (Ty.dflt HoT))) then knormal v0 v1 v2 else none else none
theorem law5_HostWrites.s4000001_eq {R : Type} (v0 : List (Int × Int × Int × Int × Int × Int × Unit)) (v1 : Int) (v2 : Int) (kret : Bool → (List (Int × Int × Int × Int × Int × Int × Unit)) → Int → Int → Option R) (knormal : (List (Int × Int × Int × Int × Int × Int × Unit)) → Int → Int → Option R) : law5_HostWrites.s4000001 v0 v1 v2 kret knormal = law5_HostWrites.o4000001 v0 v1 v2 kret knormal := by
  unfold law5_HostWrites.s4000001 law5_HostWrites.o4000001
  (cases hc : decide ((0 : Int) ≤ v2) && decide (v2 < ↑(List.length v0)) with | false => (first | rfl | simp_all) | true => (cases hc : !eqD Ty.bool (host_Right (List.getD v0 (Int.toNat v2) (Ty.dflt HoT))) (ref5_Right (List.getD v0 (Int.toNat v2) (Ty.dflt HoT))) || !ByteArray.toList (bytesOf (host_Put (List.getD v0 (Int.toNat v2) (Ty.dflt HoT)))) == ByteArray.toList (bytesOf (ref5_Put (List.getD v0 (Int.toNat v2) (Ty.dflt HoT)))) with | false => (cases hc : !ref5_Right (List.getD v0 (Int.toNat v2) (Ty.dflt HoT)) with | false => (cases hc : Prod.snd (host_Read (host_Put (List.getD v0 (Int.toNat v2) (Ty.dflt HoT)))) != (0 : Int) || !eqD HoT (Prod.fst (host_Read (host_Put (List.getD v0 (Int.toNat v2) (Ty.dflt HoT))))) (List.getD v0 (Int.toNat v2) (Ty.dflt HoT)) with | false => (first | rfl | simp_all) | true => (first | rfl | simp_all)) | true => (first | rfl | simp_all)) | true => (first | rfl | simp_all)))
def law5_HostWrites.T0 : Tm := ⟨fill 0 148 [(111, Sl.data (Ty.sl HoT)), (112, Sl.data (Ty.int IntKind.i64)), (113, Sl.data (Ty.int IntKind.i64))], []⟩
def law5_HostWrites.X0_ret : Tm := ⟨fill 0 148 [(14, Sl.data Ty.bool)], []⟩
def law5_HostWrites.X0_exit0 : Tm := ⟨fill 0 148 [], []⟩
def law5_HostWrites.round0 {R : Type} (v0 : List (Int × Int × Int × Int × Int × Int × Unit)) (v1 : Int) (v2 : Int) (next : (List (Int × Int × Int × Int × Int × Int × Unit)) → Int → Int → Option R) (kret : Bool → Option R) (kexit0 : Option R) : Option R :=
  bif decide (v2 < v1) then bif decide ((0 : Int) ≤ v2) && decide (v2 < ↑(List.length v0)) then bif !eqD Ty.bool (host_Right (List.getD v0 (Int.toNat v2) (Ty.dflt HoT))) (ref5_Right (List.getD v0 (Int.toNat v2) (Ty.dflt HoT))) || !ByteArray.toList (bytesOf (host_Put (List.getD v0 (Int.toNat v2) (Ty.dflt HoT)))) == ByteArray.toList (bytesOf (ref5_Put (List.getD v0 (Int.toNat v2) (Ty.dflt HoT)))) || !(!ref5_Right (List.getD v0 (Int.toNat v2) (Ty.dflt HoT)) || !(Prod.snd (host_Read (host_Put (List.getD v0 (Int.toNat v2) (Ty.dflt HoT)))) != (0 : Int) || !eqD HoT (Prod.fst (host_Read (host_Put (List.getD v0 (Int.toNat v2) (Ty.dflt HoT))))) (List.getD v0 (Int.toNat v2) (Ty.dflt HoT)))) && (!!ref5_Right (List.getD v0 (Int.toNat v2) (Ty.dflt HoT)) && (Prod.snd (host_Read (host_Put (List.getD v0 (Int.toNat v2) (Ty.dflt HoT)))) != (0 : Int) || !eqD HoT (Prod.fst (host_Read (host_Put (List.getD v0 (Int.toNat v2) (Ty.dflt HoT))))) (List.getD v0 (Int.toNat v2) (Ty.dflt HoT)))) then kret false else bif !eqD Ty.bool (host_Right (List.getD v0 (Int.toNat v2) (Ty.dflt HoT))) (ref5_Right (List.getD v0 (Int.toNat v2) (Ty.dflt HoT))) || !ByteArray.toList (bytesOf (host_Put (List.getD v0 (Int.toNat v2) (Ty.dflt HoT)))) == ByteArray.toList (bytesOf (ref5_Put (List.getD v0 (Int.toNat v2) (Ty.dflt HoT)))) then none else bif !ref5_Right (List.getD v0 (Int.toNat v2) (Ty.dflt HoT)) || !(Prod.snd (host_Read (host_Put (List.getD v0 (Int.toNat v2) (Ty.dflt HoT)))) != (0 : Int) || !eqD HoT (Prod.fst (host_Read (host_Put (List.getD v0 (Int.toNat v2) (Ty.dflt HoT))))) (List.getD v0 (Int.toNat v2) (Ty.dflt HoT))) then next v0 v1 (IntKind.wrap IntKind.i64 (v2 + (1 : Int))) else none else none else kexit0
def law5_HostWrites.R0 {R : Type} (kret : Bool → Option R) (kexit0 : Option R) : ((List (Int × Int × Int × Int × Int × Int × Unit)) × Int × Int) → (((List (Int × Int × Int × Int × Int × Int × Unit)) × Int × Int) → Option R) → Option R := fun (v0, v1, v2) next => law5_HostWrites.round0 v0 v1 v2 (fun w0 w1 w2 => next (w0, w1, w2)) kret kexit0
theorem law5_HostWrites.R0_eq {R : Type} (kret : Bool → Option R) (kexit0 : Option R) (v0 : List (Int × Int × Int × Int × Int × Int × Unit)) (v1 : Int) (v2 : Int) (next : ((List (Int × Int × Int × Int × Int × Int × Unit)) × Int × Int) → Option R) : law5_HostWrites.R0 kret kexit0 (v0, v1, v2) next = law5_HostWrites.round0 v0 v1 v2 (fun w0 w1 w2 => next (w0, w1, w2)) kret kexit0 := rfl
def law5_HostWrites.loop0 {R : Type} (v0 : List (Int × Int × Int × Int × Int × Int × Unit)) (v1 : Int) (v2 : Int) (kret : Bool → Option R) (kexit0 : Option R) : Option R :=
  open Classical in
  if v1 = v0.length ∧ v1 < 4611686018427387904 ∧ 0 ≤ v2 ∧ v2 ≤ v1 ∧ (∀ h ∈ v0, U32 h.2.2.2.2.2.1) then kexit0 else none
theorem law5_HostWrites.loop0_ok {R : Type} (v0 : List (Int × Int × Int × Int × Int × Int × Unit)) (v1 : Int) (v2 : Int) (kret : Bool → Option R) (kexit0 : Option R) (r : R) (h : law5_HostWrites.loop0 v0 v1 v2 kret kexit0 = some r) : ∃ n, lp (law5_HostWrites.R0 kret kexit0) n (v0, v1, v2) = some r := by
  unfold law5_HostWrites.loop0 at h
  split at h <;> try (cases h; done)
  rename_i hc
  obtain ⟨h1, h2, h3, h4, h5⟩ := hc
  rw [← h]
  refine lp_pass (fun i => (v0, v1, i)) (n := v1) ?_ ?_ v2 h3 h4
  · intro i i0 i1 next
    obtain ⟨x, hx, hd⟩ := getD_at (d := Ty.dflt HoT) i0 (h1 ▸ i1)
    have hok : U32 x.2.2.2.2.2.1 := h5 x (by
      have : x ∈ v0.drop i.toNat := by rw [hd]; simp
      exact List.mem_of_mem_drop this)
    rw [law5_HostWrites.R0_eq, law5_HostWrites.round0, decide_eq_true i1, decide_eq_true i0, decide_eq_true (h1 ▸ i1 : i < (v0.length : Int)), hx, show ref5_Right x = host_Right x from rfl, show ref5_Put x = host_Put x from rfl, eqD_bools, wrap_next i0 i1 h2]
    cases hr : host_Right x with
    | false => simp
    | true =>
      have hp : host_Put x = putBytes x := by unfold host_Put; rw [hr]; rfl
      rw [hp, read_put hr hok, eqD_host]
      simp
  · intro next
    rw [law5_HostWrites.R0_eq, law5_HostWrites.round0, decide_eq_false (Int.lt_irrefl _)]
    rfl
def law5_HostWrites.C : Cfg := { rows := [], keep := [(0, [111, 112, 113], []), (1000000, [14], []), (2000009, [19, 111, 112, 113], [19]), (12000009, [19, 111, 112, 113, 130], [19]), (2000013, [19, 20, 21, 111, 112, 113], [19, 20]), (12000013, [111, 112, 113, 146], []), (4000001, [111, 112, 113], []), (14000001, [14, 111, 112, 113], [])], adopt := [] }
def law5_HostWrites.sum2000009 : FrV law5_HostWrites.T2000009.fr × StV law5_HostWrites.T2000009.st → (Ex → S → Option (List DVal)) → Option (List DVal) := fun ((v0, v1, v2, ()), (v3, ())) K => law5_HostWrites.s2000009 v0 v1 v2 v3 (fun e0 e1 e2 e3 e4 => K .normal (pack law5_HostWrites.X2000009_normal ((e0, e1, e2, e3, ()), (e4, ()))))
def law5_HostWrites.sum2000013 : FrV law5_HostWrites.T2000013.fr × StV law5_HostWrites.T2000013.st → (Ex → S → Option (List DVal)) → Option (List DVal) := fun ((v0, v1, v2, v3, ()), (v4, v5, ())) K => law5_HostWrites.s2000013 v0 v1 v2 v3 v4 v5 (fun e0 e1 e2 e3 => K .normal (pack law5_HostWrites.X2000013_normal ((e0, e1, e2, e3, ()), (()))))
def law5_HostWrites.sum4000001 : FrV law5_HostWrites.T4000001.fr × StV law5_HostWrites.T4000001.st → (Ex → S → Option (List DVal)) → Option (List DVal) := fun ((v0, v1, v2, ()), (())) K => law5_HostWrites.s4000001 v0 v1 v2 (fun e0 e1 e2 e3 => K .ret (pack law5_HostWrites.X4000001_ret ((e0, e1, e2, e3, ()), (())))) (fun e0 e1 e2 => K .normal (pack law5_HostWrites.X4000001_normal ((e0, e1, e2, ()), (()))))
def law5_HostWrites.sum0 : FrV law5_HostWrites.T0.fr × StV law5_HostWrites.T0.st → (Ex → S → Option (List DVal)) → Option (List DVal) := fun ((v0, v1, v2, ()), (())) K => law5_HostWrites.loop0 v0 v1 v2 (fun e0 => K .ret (pack law5_HostWrites.X0_ret ((e0, ()), (())))) (K (.exit 0) (pack law5_HostWrites.X0_exit0 ((), ())))
def law5_HostWrites.rnd0 : FrV law5_HostWrites.T0.fr × StV law5_HostWrites.T0.st → (FrV law5_HostWrites.T0.fr × StV law5_HostWrites.T0.st → Option (List DVal)) → (Ex → S → Option (List DVal)) → Option (List DVal) := fun ((v0, v1, v2, ()), (())) next K => law5_HostWrites.round0 v0 v1 v2 (fun w0 w1 w2 => next ((w0, w1, w2, ()), (()))) (fun e0 => K .ret (pack law5_HostWrites.X0_ret ((e0, ()), (())))) (K (.exit 0) (pack law5_HostWrites.X0_exit0 ((), ())))
def law5_HostWrites.L : Nat → Option Sum := fun i => if i = 0 then some (sumOf law5_HostWrites.T0 law5_HostWrites.sum0) else if i = 2000009 then some (sumOf law5_HostWrites.T2000009 law5_HostWrites.sum2000009) else if i = 2000013 then some (sumOf law5_HostWrites.T2000013 law5_HostWrites.sum2000013) else if i = 4000001 then some (sumOf law5_HostWrites.T4000001 law5_HostWrites.sum4000001) else none
theorem law5_HostWrites.rnd0_eq : ∀ v (r : S → Option (List DVal)) (K : Ex → S → Option (List DVal)), exec Try.prog law5_HostWrites.C law5_HostWrites.env law5_HostWrites.L 0 (loopOf Try.f4 0) (pack law5_HostWrites.T0 v) (fun e s' => match e with | .normal => r (trim law5_HostWrites.C 0 s') | e => K e (trim law5_HostWrites.C (0 + 1000000) s')) = law5_HostWrites.rnd0 v (fun v' => r (pack law5_HostWrites.T0 v')) K :=
  fun ((v0, v1, v2, ()), (())) r K => by kernel_rfl
theorem law5_HostWrites.lp0 (K : Ex → S → Option (List DVal)) : ∀ (n : Nat) (v0 : List (Int × Int × Int × Int × Int × Int × Unit)) (v1 : Int) (v2 : Int), lp (fun v next => law5_HostWrites.rnd0 v next K) n ((v0, v1, v2, ()), (())) = lp (law5_HostWrites.R0 (fun e0 => K .ret (pack law5_HostWrites.X0_ret ((e0, ()), (())))) (K (.exit 0) (pack law5_HostWrites.X0_exit0 ((), ())))) n (v0, v1, v2) := by
  intro n
  induction n with
  | zero => intros; rfl
  | succ n ih =>
    intro v0 v1 v2
    show law5_HostWrites.round0 v0 v1 v2 (fun w0 w1 w2 => lp (fun v next => law5_HostWrites.rnd0 v next K) n ((w0, w1, w2, ()), (()))) (fun e0 => K .ret (pack law5_HostWrites.X0_ret ((e0, ()), (())))) (K (.exit 0) (pack law5_HostWrites.X0_exit0 ((), ()))) = law5_HostWrites.round0 v0 v1 v2 (fun w0 w1 w2 => lp (law5_HostWrites.R0 (fun e0 => K .ret (pack law5_HostWrites.X0_ret ((e0, ()), (())))) (K (.exit 0) (pack law5_HostWrites.X0_exit0 ((), ())))) n (w0, w1, w2)) (fun e0 => K .ret (pack law5_HostWrites.X0_ret ((e0, ()), (())))) (K (.exit 0) (pack law5_HostWrites.X0_exit0 ((), ())))
    simp only [ih]
theorem law5_HostWrites.sum0_ok : SumOk Try.prog law5_HostWrites.C law5_HostWrites.env law5_HostWrites.L 0 (loopOf Try.f4 0) := sumOk_lp (T := law5_HostWrites.T0) (rnd := law5_HostWrites.rnd0) (f := law5_HostWrites.sum0) rfl law5_HostWrites.rnd0_eq fun ((v0, v1, v2, ()), (())) K r h => by
  obtain ⟨n, hn⟩ := law5_HostWrites.loop0_ok v0 v1 v2 (fun e0 => K .ret (pack law5_HostWrites.X0_ret ((e0, ()), (())))) (K (.exit 0) (pack law5_HostWrites.X0_exit0 ((), ()))) r h
  exact ⟨n, by rw [law5_HostWrites.lp0]; exact hn⟩
theorem law5_HostWrites.x2000009 : ∀ v (K : Ex → S → Option (List DVal)), exec1 Try.prog law5_HostWrites.C law5_HostWrites.env law5_HostWrites.L (spotOf Try.f4 2000009).2.1 (spotOf Try.f4 2000009).2.2 (pack law5_HostWrites.T2000009 v) (fun e s' => K e (trim law5_HostWrites.C (2000009 + 10000000) s')) = (fun (((v0, v1, v2, ()), (v3, ())) : FrV law5_HostWrites.T2000009.fr × StV law5_HostWrites.T2000009.st) => law5_HostWrites.o2000009 v0 v1 v2 v3 (fun e0 e1 e2 e3 e4 => K .normal (pack law5_HostWrites.X2000009_normal ((e0, e1, e2, e3, ()), (e4, ()))))) v :=
  fun ((v0, v1, v2, ()), (v3, ())) K => by kernel_rfl
theorem law5_HostWrites.sum2000009_ok : SpotOk Try.prog law5_HostWrites.C law5_HostWrites.env law5_HostWrites.L (spotOf Try.f4 2000009) := spotOk_of (T := law5_HostWrites.T2000009) (q := 2000009) (f := law5_HostWrites.sum2000009) (by kernel_rfl) (by kernel_rfl) fun ((v0, v1, v2, ()), (v3, ())) K r h => (law5_HostWrites.x2000009 _ K).trans ((law5_HostWrites.s2000009_eq v0 v1 v2 v3 (fun e0 e1 e2 e3 e4 => K .normal (pack law5_HostWrites.X2000009_normal ((e0, e1, e2, e3, ()), (e4, ()))))).symm.trans h)
theorem law5_HostWrites.x2000013 : ∀ v (K : Ex → S → Option (List DVal)), exec1 Try.prog law5_HostWrites.C law5_HostWrites.env law5_HostWrites.L (spotOf Try.f4 2000013).2.1 (spotOf Try.f4 2000013).2.2 (pack law5_HostWrites.T2000013 v) (fun e s' => K e (trim law5_HostWrites.C (2000013 + 10000000) s')) = (fun (((v0, v1, v2, v3, ()), (v4, v5, ())) : FrV law5_HostWrites.T2000013.fr × StV law5_HostWrites.T2000013.st) => law5_HostWrites.o2000013 v0 v1 v2 v3 v4 v5 (fun e0 e1 e2 e3 => K .normal (pack law5_HostWrites.X2000013_normal ((e0, e1, e2, e3, ()), (()))))) v :=
  fun ((v0, v1, v2, v3, ()), (v4, v5, ())) K => by kernel_rfl
theorem law5_HostWrites.sum2000013_ok : SpotOk Try.prog law5_HostWrites.C law5_HostWrites.env law5_HostWrites.L (spotOf Try.f4 2000013) := spotOk_of (T := law5_HostWrites.T2000013) (q := 2000013) (f := law5_HostWrites.sum2000013) (by kernel_rfl) (by kernel_rfl) fun ((v0, v1, v2, v3, ()), (v4, v5, ())) K r h => (law5_HostWrites.x2000013 _ K).trans ((law5_HostWrites.s2000013_eq v0 v1 v2 v3 v4 v5 (fun e0 e1 e2 e3 => K .normal (pack law5_HostWrites.X2000013_normal ((e0, e1, e2, e3, ()), (()))))).symm.trans h)
theorem law5_HostWrites.x4000001 : ∀ v (K : Ex → S → Option (List DVal)), exec1 Try.prog law5_HostWrites.C law5_HostWrites.env law5_HostWrites.L (spotOf Try.f4 4000001).2.1 (spotOf Try.f4 4000001).2.2 (pack law5_HostWrites.T4000001 v) (fun e s' => K e (trim law5_HostWrites.C (4000001 + 10000000) s')) = (fun (((v0, v1, v2, ()), (())) : FrV law5_HostWrites.T4000001.fr × StV law5_HostWrites.T4000001.st) => law5_HostWrites.o4000001 v0 v1 v2 (fun e0 e1 e2 e3 => K .ret (pack law5_HostWrites.X4000001_ret ((e0, e1, e2, e3, ()), (())))) (fun e0 e1 e2 => K .normal (pack law5_HostWrites.X4000001_normal ((e0, e1, e2, ()), (()))))) v :=
  fun ((v0, v1, v2, ()), (())) K => by kernel_rfl
theorem law5_HostWrites.sum4000001_ok : SpotOk Try.prog law5_HostWrites.C law5_HostWrites.env law5_HostWrites.L (spotOf Try.f4 4000001) := spotOk_of (T := law5_HostWrites.T4000001) (q := 4000001) (f := law5_HostWrites.sum4000001) (by kernel_rfl) (by kernel_rfl) fun ((v0, v1, v2, ()), (())) K r h => (law5_HostWrites.x4000001 _ K).trans ((law5_HostWrites.s4000001_eq v0 v1 v2 (fun e0 e1 e2 e3 => K .ret (pack law5_HostWrites.X4000001_ret ((e0, e1, e2, e3, ()), (())))) (fun e0 e1 e2 => K .normal (pack law5_HostWrites.X4000001_normal ((e0, e1, e2, ()), (()))))).symm.trans h)
def law5_HostWrites.tree {R : Type} (a0 : Int × Int × Int × Int × Int × Int × Unit) (a1 : Int) (a2 : Int) (a3 : Int) (a4 : Int) (a5 : Int) (a6 : Int) (ret : Bool → Option R) : Option R :=
  law5_HostWrites.loop0 [a0, (IntKind.wrap IntKind.i64 (IntKind.wrap IntKind.i64 (Int.tmod a1 (32 : Int)) + (1 : Int)), IntKind.wrap IntKind.i64 (Int.tmod a2 (34 : Int)), IntKind.wrap IntKind.i64 (Int.tmod a3 (34 : Int)), IntKind.wrap IntKind.i64 (Int.tmod a4 (34 : Int)), IntKind.wrap IntKind.i64 (Int.tmod a5 (34 : Int)), a6, ()), (IntKind.wrap IntKind.i64 (IntKind.wrap IntKind.i64 (Int.tmod a1 (32 : Int)) + (1 : Int)), IntKind.wrap IntKind.i64 (Int.tmod a2 (34 : Int)), IntKind.wrap IntKind.i64 (Int.tmod a3 (34 : Int)), (0 : Int), (0 : Int), (0 : Int), ()), (IntKind.wrap IntKind.i64 (IntKind.wrap IntKind.i64 (Int.tmod a1 (32 : Int)) + (1 : Int)), IntKind.wrap IntKind.i64 (Int.tmod a2 (34 : Int)), IntKind.wrap IntKind.i64 (Int.tmod a3 (34 : Int)), IntKind.wrap IntKind.i64 (Int.tmod a4 (34 : Int)), (0 : Int), (0 : Int), ()), (IntKind.wrap IntKind.i64 (IntKind.wrap IntKind.i64 (Int.tmod a1 (32 : Int)) + (1 : Int)), (0 : Int), (0 : Int), (0 : Int), (0 : Int), a6, ()), (IntKind.wrap IntKind.i64 (IntKind.wrap IntKind.i64 (Int.tmod a1 (32 : Int)) + (1 : Int)), (0 : Int), IntKind.wrap IntKind.i64 (Int.tmod a3 (34 : Int)), (0 : Int), (0 : Int), a6, ()), (IntKind.wrap IntKind.i64 (IntKind.wrap IntKind.i64 (Int.tmod a1 (32 : Int)) + (1 : Int)), (0 : Int), IntKind.wrap IntKind.i64 (Int.tmod a3 (34 : Int)), IntKind.wrap IntKind.i64 (Int.tmod a4 (34 : Int)), (0 : Int), a6, ()), (IntKind.wrap IntKind.i64 (IntKind.wrap IntKind.i64 (Int.tmod a1 (32 : Int)) + (1 : Int)), IntKind.wrap IntKind.i64 (Int.tmod a2 (34 : Int)), IntKind.wrap IntKind.i64 (Int.tmod a3 (34 : Int)), (0 : Int), (0 : Int), a6, ()), (IntKind.wrap IntKind.i64 (IntKind.wrap IntKind.i64 (Int.tmod a1 (32 : Int)) + (1 : Int)), IntKind.wrap IntKind.i64 (Int.tmod a2 (34 : Int)), (0 : Int), (0 : Int), (0 : Int), a6, ()), (IntKind.wrap IntKind.i64 (IntKind.wrap IntKind.i64 (Int.tmod a1 (32 : Int)) + (1 : Int)), (0 : Int), (0 : Int), (0 : Int), (0 : Int), (0 : Int), ()), ((31 : Int), (0 : Int), (0 : Int), (0 : Int), (0 : Int), Int.tmod a6 (110 : Int), ()), (IntKind.wrap IntKind.i64 (IntKind.wrap IntKind.i64 (Int.tmod a1 (32 : Int)) + (1 : Int)), IntKind.wrap IntKind.i64 (Int.tmod a2 (34 : Int)), IntKind.wrap IntKind.i64 (Int.tmod a3 (34 : Int)), IntKind.wrap IntKind.i64 (Int.tmod a4 (34 : Int)), IntKind.wrap IntKind.i64 (Int.tmod a5 (34 : Int)), (0 : Int), ())] (12 : Int) (0 : Int) (fun e0 => ret e0) (ret true)
theorem law5_HostWrites.eq (a0 : Int × Int × Int × Int × Int × Int × Unit) (a1 : Int) (a2 : Int) (a3 : Int) (a4 : Int) (a5 : Int) (a6 : Int) : body Try.prog law5_HostWrites.C law5_HostWrites.env law5_HostWrites.L Try.f4 [⟨HoT, a0⟩, ⟨Ty.int IntKind.u8, a1⟩, ⟨Ty.int IntKind.u8, a2⟩, ⟨Ty.int IntKind.u8, a3⟩, ⟨Ty.int IntKind.u8, a4⟩, ⟨Ty.int IntKind.u8, a5⟩, ⟨Ty.int IntKind.u32, a6⟩] = law5_HostWrites.tree a0 a1 a2 a3 a4 a5 a6 (fun r0 => some ([⟨Ty.bool, r0⟩] : List DVal)) := by kernel_rfl
def law5_HostWrites.pre (raw : Hos) (o d a b c v : Int) : Bool := decide (0 ≤ raw.2.2.2.2.2.1 ∧ raw.2.2.2.2.2.1 < 4294967296) && decide (0 ≤ v ∧ v < 4294967296)
def law5_HostWrites (raw : Hos) (o d a b c v : Int) : Bool := true
theorem law5_HostWrites.nice {R : Type} (raw : Hos) (o d a b c v : Int) (hp : law5_HostWrites.pre raw o d a b c v = true) (ret : Bool → Option R) : law5_HostWrites.tree raw o d a b c v ret = ret (law5_HostWrites raw o d a b c v) := by
  unfold law5_HostWrites.pre at hp
  simp only [Bool.and_eq_true, decide_eq_true_eq] at hp
  obtain ⟨hr, hv⟩ := hp
  have z : U32 0 := ⟨by decide, by decide⟩
  unfold law5_HostWrites.tree law5_HostWrites.loop0
  rw [if_pos ⟨rfl, by decide, by decide, by decide, fun h hh => by
    simp only [List.mem_cons, List.not_mem_nil, or_false] at hh
    rcases hh with rfl | rfl | rfl | rfl | rfl | rfl | rfl | rfl | rfl | rfl | rfl | rfl
    · exact hr
    · exact hv
    · exact z
    · exact z
    · exact hv
    · exact hv
    · exact hv
    · exact hv
    · exact hv
    · exact z
    · show U32 (Int.tmod v 110)
      rw [Int.tmod_eq_emod_of_nonneg hv.1]
      unfold U32
      omega
    · exact z⟩]
  rfl

def law5_HostWrites.ctr : Ctr := ctrOf [HoT, Ty.int IntKind.u8, Ty.int IntKind.u8, Ty.int IntKind.u8, Ty.int IntKind.u8, Ty.int IntKind.u8, Ty.int IntKind.u32] fun x => .guard (law5_HostWrites.pre (x.1) (x.2.1) (x.2.2.1) (x.2.2.2.1) (x.2.2.2.2.1) (x.2.2.2.2.2.1) (x.2.2.2.2.2.2.1)) (.ret [⟨Ty.bool, law5_HostWrites (x.1) (x.2.1) (x.2.2.1) (x.2.2.2.1) (x.2.2.2.2.1) (x.2.2.2.2.2.1) (x.2.2.2.2.2.2.1)⟩])
theorem law5_HostWrites.known : Known Try.prog 4 law5_HostWrites.ctr :=
  known_plain law5_HostWrites.envOk mixed Try.func4 (by kernel_rfl) (by kernel_rfl) (byId (by kernel_rfl : loopIds Try.f4 = [0]) (by intro q hq; simp only [List.mem_cons, List.not_mem_nil, or_false] at hq; subst hq; first | exact law5_HostWrites.sum0_ok)) (bySpot (ids := [2000009, 2000013, 4000001]) (by kernel_rfl) (by intro q hq; simp only [List.mem_cons, List.not_mem_nil, or_false] at hq; rcases hq with rfl | rfl | rfl <;> first | exact law5_HostWrites.sum2000009_ok | exact law5_HostWrites.sum2000013_ok | exact law5_HostWrites.sum4000001_ok)) fun x rs h => by
    obtain ⟨a0, a1, a2, a3, a4, a5, a6, u⟩ := x
    cases u
    simp only [Cmd.val_guard, Cmd.val_ret] at h
    split at h <;> try (cases h; done)
    rename_i hp
    exact (law5_HostWrites.eq a0 a1 a2 a3 a4 a5 a6).trans ((law5_HostWrites.nice a0 a1 a2 a3 a4 a5 a6 hp (fun r0 => some ([⟨Ty.bool, r0⟩] : List DVal))).trans h)
end
end Go.D.Ytbcjiicaekfjlaa
