import Derived.Test.YtbcjiicaekfjlaaChecked
import Derived.Test.YtbcjiicaekfjlaaDX
import Derived.KernelRfl
import Derived.Test.YtbcjiicaekfjlaaLlaw5
namespace Go.D.Ytbcjiicaekfjlaa
open Go.Proofs
set_option linter.unusedVariables false
set_option linter.unusedSimpArgs false
set_option maxRecDepth 100000
noncomputable section


/-! ### law5_HostBytes -/
def law5_HostBytes.env : Env := envCons 14 law5_known.ctr <| envCons 18 host_Put.ctr <| envCons 22 host_Cost.ctr <| envCons 23 host_Loads.ctr <| envCons 24 host_Stores.ctr <| envNil
theorem law5_HostBytes.envOk : EnvOk Try.prog law5_HostBytes.env := envOk_cons law5_known.known (envOk_cons host_Put.known (envOk_cons host_Cost.known (envOk_cons host_Loads.known (envOk_cons host_Stores.known (envOk_nil _)))))
def law5_HostBytes.T2000008 : Tm := ⟨fill 0 105 [(5, Sl.data (Ty.int IntKind.u32)), (6, Sl.data (Ty.int IntKind.u32)), (15, Sl.ptr (15 : Nat) (nilOf Step)), (16, Sl.ptr (16 : Nat) (nilOf Step)), (17, Sl.ptr (17 : Nat) (nilOf Step)), (18, Sl.ptr (18 : Nat) (nilOf Step))], [{ k := (15 : Nat), t := HoT, vir := false }, { k := (16 : Nat), t := HoT, vir := false }, { k := (17 : Nat), t := HoT, vir := false }, { k := (18 : Nat), t := HoT, vir := false }]⟩
def law5_HostBytes.X2000008_normal : Tm := ⟨fill 0 105 [(14, Sl.data Ty.bool)], []⟩
def law5_HostBytes.o2000008 {R : Type} (v0 : Int) (v1 : Int) (v2 : Int × Int × Int × Int × Int × Int × Unit) (v3 : Int × Int × Int × Int × Int × Int × Unit) (v4 : Int × Int × Int × Int × Int × Int × Unit) (v5 : Int × Int × Int × Int × Int × Int × Unit) (knormal : Bool → Option R) : Option R :=
  bif ↑(List.length (host_Put v2)) == (9 : Int) then bif ↑(List.length (host_Put v3)) == (9 : Int) then bif eqD Ty.bool (ByteArray.toList (bytesOf (host_Put v3)) == ByteArray.toList (bytesOf (host_Put v4))) (v0 == v1) then bif eqD Ty.bool (ByteArray.toList (bytesOf (host_Put v2)) == ByteArray.toList (bytesOf (host_Put v5))) (eqD HoT v2 v5) then bif decide (host_Cost (Prod.fst v2) > (0 : Int)) then bif host_Loads (Prod.fst v2) == (0 : Int) then knormal (host_Stores (Prod.fst v2) == (0 : Int)) else knormal false else knormal false else knormal false else knormal false else knormal false else knormal false
def law5_HostBytes.s2000008 {R : Type} (v0 : Int) (v1 : Int) (v2 : Int × Int × Int × Int × Int × Int × Unit) (v3 : Int × Int × Int × Int × Int × Int × Unit) (v4 : Int × Int × Int × Int × Int × Int × Unit) (v5 : Int × Int × Int × Int × Int × Int × Unit) (knormal : Bool → Option R) : Option R :=
  knormal (↑(List.length (host_Put v2)) == (9 : Int) && (↑(List.length (host_Put v3)) == (9 : Int) && (eqD Ty.bool (ByteArray.toList (bytesOf (host_Put v3)) == ByteArray.toList (bytesOf (host_Put v4))) (v0 == v1) && (eqD Ty.bool (ByteArray.toList (bytesOf (host_Put v2)) == ByteArray.toList (bytesOf (host_Put v5))) (eqD HoT v2 v5) && (decide (host_Cost (Prod.fst v2) > (0 : Int)) && (host_Loads (Prod.fst v2) == (0 : Int) && host_Stores (Prod.fst v2) == (0 : Int)))))))
theorem law5_HostBytes.s2000008_eq {R : Type} (v0 : Int) (v1 : Int) (v2 : Int × Int × Int × Int × Int × Int × Unit) (v3 : Int × Int × Int × Int × Int × Int × Unit) (v4 : Int × Int × Int × Int × Int × Int × Unit) (v5 : Int × Int × Int × Int × Int × Int × Unit) (knormal : Bool → Option R) : law5_HostBytes.s2000008 v0 v1 v2 v3 v4 v5 knormal = law5_HostBytes.o2000008 v0 v1 v2 v3 v4 v5 knormal := by
  unfold law5_HostBytes.s2000008 law5_HostBytes.o2000008
  (cases hc : ↑(List.length (host_Put v2)) == (9 : Int) with | false => (first | rfl | simp_all) | true => (cases hc : ↑(List.length (host_Put v3)) == (9 : Int) with | false => (first | rfl | simp_all) | true => (cases hc : eqD Ty.bool (ByteArray.toList (bytesOf (host_Put v3)) == ByteArray.toList (bytesOf (host_Put v4))) (v0 == v1) with | false => (first | rfl | simp_all) | true => (cases hc : eqD Ty.bool (ByteArray.toList (bytesOf (host_Put v2)) == ByteArray.toList (bytesOf (host_Put v5))) (eqD HoT v2 v5) with | false => (first | rfl | simp_all) | true => (cases hc : decide (host_Cost (Prod.fst v2) > (0 : Int)) with | false => (first | rfl | simp_all) | true => (cases hc : host_Loads (Prod.fst v2) == (0 : Int) with | false => (first | rfl | simp_all) | true => (first | rfl | simp_all)))))))
def law5_HostBytes.C : Cfg := { rows := [], keep := [(2000008, [5, 6, 15, 16, 17, 18], [15, 16, 17, 18]), (12000008, [14], [])], adopt := [] }
def law5_HostBytes.sum2000008 : FrV law5_HostBytes.T2000008.fr × StV law5_HostBytes.T2000008.st → (Ex → S → Option (List DVal)) → Option (List DVal) := fun ((v0, v1, ()), (v2, v3, v4, v5, ())) K => law5_HostBytes.s2000008 v0 v1 v2 v3 v4 v5 (fun e0 => K .normal (pack law5_HostBytes.X2000008_normal ((e0, ()), (()))))
def law5_HostBytes.L : Nat → Option Sum := fun i => if i = 2000008 then some (sumOf law5_HostBytes.T2000008 law5_HostBytes.sum2000008) else none
theorem law5_HostBytes.x2000008 : ∀ v (K : Ex → S → Option (List DVal)), exec1 Try.prog law5_HostBytes.C law5_HostBytes.env law5_HostBytes.L (spotOf Try.f6 2000008).2.1 (spotOf Try.f6 2000008).2.2 (pack law5_HostBytes.T2000008 v) (fun e s' => K e (trim law5_HostBytes.C (2000008 + 10000000) s')) = (fun (((v0, v1, ()), (v2, v3, v4, v5, ())) : FrV law5_HostBytes.T2000008.fr × StV law5_HostBytes.T2000008.st) => law5_HostBytes.o2000008 v0 v1 v2 v3 v4 v5 (fun e0 => K .normal (pack law5_HostBytes.X2000008_normal ((e0, ()), (()))))) v :=
  fun ((v0, v1, ()), (v2, v3, v4, v5, ())) K => by kernel_rfl
theorem law5_HostBytes.sum2000008_ok : SpotOk Try.prog law5_HostBytes.C law5_HostBytes.env law5_HostBytes.L (spotOf Try.f6 2000008) := spotOk_of (T := law5_HostBytes.T2000008) (q := 2000008) (f := law5_HostBytes.sum2000008) (by kernel_rfl) (by kernel_rfl) fun ((v0, v1, ()), (v2, v3, v4, v5, ())) K r h => (law5_HostBytes.x2000008 _ K).trans ((law5_HostBytes.s2000008_eq v0 v1 v2 v3 v4 v5 (fun e0 => K .normal (pack law5_HostBytes.X2000008_normal ((e0, ()), (()))))).symm.trans h)
def law5_HostBytes.tree {R : Type} (a0 : Int) (a1 : Int) (a2 : Int) (a3 : Int) (a4 : Int) (a5 : Int) (a6 : Int) (ret : Bool → Option R) : Option R :=
  ret (↑(List.length (host_Put (IntKind.wrap IntKind.i64 (IntKind.wrap IntKind.i64 (Int.tmod a0 (14 : Int)) + (3 : Int)), IntKind.wrap IntKind.i64 (Int.tmod a2 (32 : Int)), IntKind.wrap IntKind.i64 (Int.tmod a3 (32 : Int)), IntKind.wrap IntKind.i64 (Int.tmod a4 (32 : Int)), (0 : Int), (0 : Int), ()))) == (9 : Int) && (↑(List.length (host_Put ((1 : Int), IntKind.wrap IntKind.i64 (Int.tmod a3 (32 : Int)), (0 : Int), (0 : Int), (0 : Int), a5, ()))) == (9 : Int) && (eqD Ty.bool (ByteArray.toList (bytesOf (host_Put ((1 : Int), IntKind.wrap IntKind.i64 (Int.tmod a3 (32 : Int)), (0 : Int), (0 : Int), (0 : Int), a5, ()))) == ByteArray.toList (bytesOf (host_Put ((1 : Int), IntKind.wrap IntKind.i64 (Int.tmod a3 (32 : Int)), (0 : Int), (0 : Int), (0 : Int), a6, ())))) (a5 == a6) && (eqD Ty.bool (ByteArray.toList (bytesOf (host_Put (IntKind.wrap IntKind.i64 (IntKind.wrap IntKind.i64 (Int.tmod a0 (14 : Int)) + (3 : Int)), IntKind.wrap IntKind.i64 (Int.tmod a2 (32 : Int)), IntKind.wrap IntKind.i64 (Int.tmod a3 (32 : Int)), IntKind.wrap IntKind.i64 (Int.tmod a4 (32 : Int)), (0 : Int), (0 : Int), ()))) == ByteArray.toList (bytesOf (host_Put (IntKind.wrap IntKind.i64 (IntKind.wrap IntKind.i64 (Int.tmod a1 (14 : Int)) + (3 : Int)), IntKind.wrap IntKind.i64 (Int.tmod a2 (32 : Int)), IntKind.wrap IntKind.i64 (Int.tmod a3 (32 : Int)), IntKind.wrap IntKind.i64 (Int.tmod a4 (32 : Int)), (0 : Int), (0 : Int), ())))) (eqD HoT (IntKind.wrap IntKind.i64 (IntKind.wrap IntKind.i64 (Int.tmod a0 (14 : Int)) + (3 : Int)), IntKind.wrap IntKind.i64 (Int.tmod a2 (32 : Int)), IntKind.wrap IntKind.i64 (Int.tmod a3 (32 : Int)), IntKind.wrap IntKind.i64 (Int.tmod a4 (32 : Int)), (0 : Int), (0 : Int), ()) (IntKind.wrap IntKind.i64 (IntKind.wrap IntKind.i64 (Int.tmod a1 (14 : Int)) + (3 : Int)), IntKind.wrap IntKind.i64 (Int.tmod a2 (32 : Int)), IntKind.wrap IntKind.i64 (Int.tmod a3 (32 : Int)), IntKind.wrap IntKind.i64 (Int.tmod a4 (32 : Int)), (0 : Int), (0 : Int), ())) && (decide (host_Cost (IntKind.wrap IntKind.i64 (IntKind.wrap IntKind.i64 (Int.tmod a0 (14 : Int)) + (3 : Int))) > (0 : Int)) && (host_Loads (IntKind.wrap IntKind.i64 (IntKind.wrap IntKind.i64 (Int.tmod a0 (14 : Int)) + (3 : Int))) == (0 : Int) && host_Stores (IntKind.wrap IntKind.i64 (IntKind.wrap IntKind.i64 (Int.tmod a0 (14 : Int)) + (3 : Int))) == (0 : Int)))))))
theorem law5_HostBytes.eq (a0 : Int) (a1 : Int) (a2 : Int) (a3 : Int) (a4 : Int) (a5 : Int) (a6 : Int) : body Try.prog law5_HostBytes.C law5_HostBytes.env law5_HostBytes.L Try.f6 [⟨Ty.int IntKind.u8, a0⟩, ⟨Ty.int IntKind.u8, a1⟩, ⟨Ty.int IntKind.u8, a2⟩, ⟨Ty.int IntKind.u8, a3⟩, ⟨Ty.int IntKind.u8, a4⟩, ⟨Ty.int IntKind.u32, a5⟩, ⟨Ty.int IntKind.u32, a6⟩] = law5_HostBytes.tree a0 a1 a2 a3 a4 a5 a6 (fun r0 => some ([⟨Ty.bool, r0⟩] : List DVal)) := by kernel_rfl
theorem reg_true {r : Int} (h0 : 0 ≤ r) (h1 : r < 32) : host_register r true = true := by
  unfold host_register
  by_cases h : r = 0
  · subst h; rfl
  · rw [decide_eq_true (by omega : r > 0), decide_eq_true h1]; simp
theorem put_u8 (h : Hos) : ∀ y ∈ putBytes h, U8 y := by
  intro y hy
  have w : ∀ z : Int, U8 (IntKind.wrap .u8 z) := fun z => by unfold U8; rw [IntKind.wrap_u8]; omega
  unfold putBytes at hy
  simp only [List.mem_cons, List.not_mem_nil, or_false] at hy
  rcases hy with rfl | rfl | rfl | rfl | rfl | rfl | rfl | rfl | rfl <;> exact w _
theorem ops3 {o : Int} (h0 : 3 ≤ o) (h1 : o ≤ 16) : host_fields o = (true, true, true, false, false) ∧ decide (host_Cost o > 0) = true ∧ host_Loads o = 0 ∧ host_Stores o = 0 := by
  rcases (by omega : o = 3 ∨ o = 4 ∨ o = 5 ∨ o = 6 ∨ o = 7 ∨ o = 8 ∨ o = 9 ∨ o = 10 ∨ o = 11 ∨ o = 12 ∨ o = 13 ∨ o = 14 ∨ o = 15 ∨ o = 16) with rfl | rfl | rfl | rfl | rfl | rfl | rfl | rfl | rfl | rfl | rfl | rfl | rfl | rfl <;> exact ⟨rfl, rfl, rfl, rfl⟩
theorem right3 {o D A B : Int} (h0 : 3 ≤ o) (h1 : o ≤ 16) (d0 : 0 ≤ D) (d1 : D < 32) (a0 : 0 ≤ A) (a1 : A < 32) (b0 : 0 ≤ B) (b1 : B < 32) : host_Right (o, D, A, B, 0, 0, ()) = true := by
  unfold host_Right
  dsimp only
  rw [(ops3 h0 h1).1, decide_eq_false (by omega : ¬ o < 1), decide_eq_false (by omega : ¬ o ≥ 32)]
  dsimp only
  have e : (o == 31) = false := by simp; omega
  rw [reg_true d0 d1, reg_true a0 a1, reg_true b0 b1, e]
  rfl
theorem right1 {D v : Int} (d0 : 0 ≤ D) (d1 : D < 32) : host_Right (1, D, 0, 0, 0, v, ()) = true := by
  show (host_register D true && true) = true
  rw [reg_true d0 d1]
  rfl
theorem imm_inj {v w : Int} (hv : U32 v) (hw : U32 w) (h0 : IntKind.wrap .u8 (shr .u32 v 0) = IntKind.wrap .u8 (shr .u32 w 0)) (h1 : IntKind.wrap .u8 (shr .u32 v 8) = IntKind.wrap .u8 (shr .u32 w 8)) (h2 : IntKind.wrap .u8 (shr .u32 v 16) = IntKind.wrap .u8 (shr .u32 w 16)) (h3 : IntKind.wrap .u8 (shr .u32 v 24) = IntKind.wrap .u8 (shr .u32 w 24)) : v = w := by
  rw [shr_u32_0, shr_u32_0] at h0
  rw [shr_u32_8, shr_u32_8] at h1
  rw [shr_u32_16, shr_u32_16] at h2
  rw [shr_u32_24, shr_u32_24] at h3
  simp only [IntKind.wrap_u8] at h0 h1 h2 h3
  unfold U32 at hv hw
  omega
def law5_HostBytes.pre (o p d a b v w : Int) : Bool := decide (0 ≤ o ∧ o < 256) && decide (0 ≤ p ∧ p < 256) && decide (0 ≤ d ∧ d < 256) && decide (0 ≤ a ∧ a < 256) && decide (0 ≤ b ∧ b < 256) && decide (0 ≤ v ∧ v < 4294967296) && decide (0 ≤ w ∧ w < 4294967296)
def law5_HostBytes (o p d a b v w : Int) : Bool := true
theorem mod32 {d : Int} (h : 0 ≤ d ∧ d < 256) : IntKind.wrap .i64 (Int.tmod d 32) = d % 32 ∧ 0 ≤ d % 32 ∧ d % 32 < 32 := by
  rw [Int.tmod_eq_emod_of_nonneg h.1, IntKind.wrap_i64]
  omega
theorem mod14 {d : Int} (h : 0 ≤ d ∧ d < 256) : IntKind.wrap .i64 (IntKind.wrap .i64 (Int.tmod d 14) + 3) = d % 14 + 3 ∧ 3 ≤ d % 14 + 3 ∧ d % 14 + 3 ≤ 16 := by
  rw [Int.tmod_eq_emod_of_nonneg h.1, IntKind.wrap_i64, IntKind.wrap_i64]
  omega
theorem law5_HostBytes.nice {R : Type} (o p d a b v w : Int) (hp : law5_HostBytes.pre o p d a b v w = true) (ret : Bool → Option R) : law5_HostBytes.tree o p d a b v w ret = ret (law5_HostBytes o p d a b v w) := by
  unfold law5_HostBytes.pre at hp
  simp only [Bool.and_eq_true, decide_eq_true_eq] at hp
  obtain ⟨⟨⟨⟨⟨⟨ho, hpp⟩, hd⟩, ha⟩, hb⟩, hv⟩, hw⟩ := hp
  obtain ⟨o1, o2, o3⟩ := mod14 ho
  obtain ⟨p1, p2, p3⟩ := mod14 hpp
  obtain ⟨d1, d2, d3⟩ := mod32 hd
  obtain ⟨a1, a2, a3⟩ := mod32 ha
  obtain ⟨b1, b2, b3⟩ := mod32 hb
  unfold law5_HostBytes.tree
  rw [o1, p1, d1, a1, b1]
  generalize o % 14 + 3 = O at o2 o3
  generalize p % 14 + 3 = P at p2 p3
  generalize d % 32 = D at d2 d3
  generalize a % 32 = A at a2 a3
  generalize b % 32 = B at b2 b3
  have q1 : host_Put (O, D, A, B, 0, 0, ()) = putBytes (O, D, A, B, 0, 0, ()) := by unfold host_Put; rw [right3 o2 o3 d2 d3 a2 a3 b2 b3]; rfl
  have q2 : host_Put (P, D, A, B, 0, 0, ()) = putBytes (P, D, A, B, 0, 0, ()) := by unfold host_Put; rw [right3 p2 p3 d2 d3 a2 a3 b2 b3]; rfl
  have q3 : ∀ z, host_Put (1, A, 0, 0, 0, z, ()) = putBytes (1, A, 0, 0, 0, z, ()) := fun z => by unfold host_Put; rw [right1 a2 a3]; rfl
  rw [q1, q2, q3, q3, bytes_beq (put_u8 _) (put_u8 _), bytes_beq (put_u8 _) (put_u8 _)]
  obtain ⟨_, c1, c2, c3⟩ := ops3 o2 o3
  rw [c1, c2, c3]
  have e1 : decide (putBytes (1, A, 0, 0, 0, v, ()) = putBytes (1, A, 0, 0, 0, w, ())) = (v == w) := by
    rw [Bool.eq_iff_iff, decide_eq_true_eq, beq_iff_eq]
    constructor
    · intro h
      unfold putBytes at h
      simp only [List.cons.injEq, and_true, true_and] at h
      exact imm_inj hv hw h.1 h.2.1 h.2.2.1 h.2.2.2
    · intro h; rw [h]
  have e2 : decide (putBytes (O, D, A, B, 0, 0, ()) = putBytes (P, D, A, B, 0, 0, ())) = (O == P) := by
    rw [Bool.eq_iff_iff, decide_eq_true_eq, beq_iff_eq]
    constructor
    · intro h
      unfold putBytes at h
      simp only [List.cons.injEq, and_true] at h
      rw [IntKind.wrap_u8, IntKind.wrap_u8] at h
      omega
    · intro h; rw [h]
  rw [e1, e2]
  have e3 : eqD HoT (O, D, A, B, 0, 0, ()) (P, D, A, B, 0, 0, ()) = (O == P) := by
    show ((O == P) && ((D == D) && ((A == A) && ((B == B) && (((0 : Int) == 0) && (((0 : Int) == 0) && true)))))) = (O == P)
    simp
  rw [e3]
  unfold eqD law5_HostBytes
  simp [putBytes]

def law5_HostBytes.ctr : Ctr := ctrOf [Ty.int IntKind.u8, Ty.int IntKind.u8, Ty.int IntKind.u8, Ty.int IntKind.u8, Ty.int IntKind.u8, Ty.int IntKind.u32, Ty.int IntKind.u32] fun x => .guard (law5_HostBytes.pre (x.1) (x.2.1) (x.2.2.1) (x.2.2.2.1) (x.2.2.2.2.1) (x.2.2.2.2.2.1) (x.2.2.2.2.2.2.1)) (.ret [⟨Ty.bool, law5_HostBytes (x.1) (x.2.1) (x.2.2.1) (x.2.2.2.1) (x.2.2.2.2.1) (x.2.2.2.2.2.1) (x.2.2.2.2.2.2.1)⟩])
theorem law5_HostBytes.known : Known Try.prog 6 law5_HostBytes.ctr :=
  known_plain law5_HostBytes.envOk mixed Try.func6 (by kernel_rfl) (by kernel_rfl) (noLoops (by kernel_rfl)) (bySpot (ids := [2000008]) (by kernel_rfl) (by intro q hq; simp only [List.mem_cons, List.not_mem_nil, or_false] at hq; subst hq; first | exact law5_HostBytes.sum2000008_ok)) fun x rs h => by
    obtain ⟨a0, a1, a2, a3, a4, a5, a6, u⟩ := x
    cases u
    simp only [Cmd.val_guard, Cmd.val_ret] at h
    split at h <;> try (cases h; done)
    rename_i hp
    exact (law5_HostBytes.eq a0 a1 a2 a3 a4 a5 a6).trans ((law5_HostBytes.nice a0 a1 a2 a3 a4 a5 a6 hp (fun r0 => some ([⟨Ty.bool, r0⟩] : List DVal))).trans h)
end
end Go.D.Ytbcjiicaekfjlaa
