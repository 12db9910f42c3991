import Derived.Test.YtbcjiicaekfjlaaChecked
import Derived.Test.YtbcjiicaekfjlaaDX
import Derived.KernelRfl
import Derived.Test.YtbcjiicaekfjlaaLwrites5
namespace Go.D.Ytbcjiicaekfjlaa
open Go.Proofs
set_option linter.unusedVariables false
set_option linter.unusedSimpArgs false
set_option maxRecDepth 100000
noncomputable section


/-! ### law5_HostReads -/
def law5_HostReads.env : Env := envCons 14 law5_known.ctr <| envCons 20 host_Read.ctr <| envCons 21 ref5_Read.ctr <| envCons 18 host_Put.ctr <| envNil
theorem law5_HostReads.envOk : EnvOk Try.prog law5_HostReads.env := envOk_cons law5_known.known (envOk_cons host_Read.known (envOk_cons ref5_Read.known (envOk_cons host_Put.known (envOk_nil _))))
theorem imm_told {b5 b6 b7 b8 : Nat} (h5 : b5 < 256) (h6 : b6 < 256) (h7 : b7 < 256) (h8 : b8 < 256) : bitop .or .u32 (bitop .or .u32 (bitop .or .u32 (bitop .or .u32 0 (shl .u32 (IntKind.wrap .u32 (b5 : Int)) 0)) (shl .u32 (IntKind.wrap .u32 (b6 : Int)) 8)) (shl .u32 (IntKind.wrap .u32 (b7 : Int)) 16)) (shl .u32 (IntKind.wrap .u32 (b8 : Int)) 24) = ((b8 * 16777216 + (b7 * 65536 + (b6 * 256 + b5)) : Nat) : Int) := by
  have s0 := shl_byte b5 0 (by omega) (by omega)
  have s1 := shl_byte b6 8 (by omega) (by omega)
  have s2 := shl_byte b7 16 (by omega) (by omega)
  have s3 := shl_byte b8 24 (by omega) (by omega)
  have o0 := bitop_or_add 0 b5 0 (by omega) (by omega)
  have o1 := bitop_or_add b5 b6 8 (by omega) (by omega)
  have o2 := bitop_or_add (b6 * 2 ^ 8 + b5) b7 16 (by omega) (by omega)
  have o3 := bitop_or_add (b7 * 2 ^ 16 + (b6 * 2 ^ 8 + b5)) b8 24 (by omega) (by omega)
  have z0 : ((b5 * 2 ^ 0 + 0 : Nat) : Int) = (b5 : Int) := by simp
  rw [z0] at o0
  have t0 : shl .u32 (IntKind.wrap .u32 (b5 : Int)) 0 = ((b5 * 2 ^ 0 : Nat) : Int) := s0
  have t1 : shl .u32 (IntKind.wrap .u32 (b6 : Int)) 8 = ((b6 * 2 ^ 8 : Nat) : Int) := s1
  have t2 : shl .u32 (IntKind.wrap .u32 (b7 : Int)) 16 = ((b7 * 2 ^ 16 : Nat) : Int) := s2
  have t3 : shl .u32 (IntKind.wrap .u32 (b8 : Int)) 24 = ((b8 * 2 ^ 24 : Nat) : Int) := s3
  have p0 : bitop .or .u32 0 ((b5 * 2 ^ 0 : Nat) : Int) = (b5 : Int) := o0
  rw [t0, t1, t2, t3, p0, o1, o2, o3]
def U8s (l : List Int) : Prop := ∀ x ∈ l, U8 x
theorem put_read {y : List Int} (hy : U8s y) (h0 : (host_Read y).2 = 0) : host_Put (host_Read y).1 = y := by
  unfold host_Read at h0 ⊢
  by_cases h1 : (y.length : Int) < 9
  · rw [decide_eq_true h1] at h0; cases h0
  · rw [decide_eq_false h1] at h0 ⊢
    simp only [cond_false] at h0 ⊢
    cases hc : decide ((y.length : Int) > 9) || !host_Right (readHost y) with
    | true => rw [hc] at h0; cases h0
    | false =>
      simp only [cond_false]
      simp only [Bool.or_eq_false_iff, decide_eq_false_iff_not, Bool.not_eq_false'] at hc
      obtain ⟨hl, hr⟩ := hc
      have h9 : y.length = 9 := by omega
      unfold host_Put
      rw [hr]
      simp only [cond_true]
      obtain ⟨b0, b1, b2, b3, b4, b5, b6, b7, b8, t, rfl⟩ := nine (by omega : 9 ≤ y.length)
      have ht : t = [] := List.length_eq_zero_iff.1 (by simp only [List.length_cons] at h9; omega)
      subst ht
      have g : ∀ x ∈ [b0, b1, b2, b3, b4, b5, b6, b7, b8], U8 x := hy
      have g0 := g b0 (by simp)
      have g1 := g b1 (by simp)
      have g2 := g b2 (by simp)
      have g3 := g b3 (by simp)
      have g4 := g b4 (by simp)
      have g5 := g b5 (by simp)
      have g6 := g b6 (by simp)
      have g7 := g b7 (by simp)
      have g8 := g b8 (by simp)
      have w : ∀ x : Int, U8 x → IntKind.wrap .u8 (IntKind.wrap .i64 x) = x := fun x h => by
        unfold U8 at h
        rw [IntKind.wrap_u8, IntKind.wrap_i64]
        omega
      unfold U8 at g5 g6 g7 g8
      obtain ⟨n5, rfl⟩ := Int.eq_ofNat_of_zero_le g5.1
      obtain ⟨n6, rfl⟩ := Int.eq_ofNat_of_zero_le g6.1
      obtain ⟨n7, rfl⟩ := Int.eq_ofNat_of_zero_le g7.1
      obtain ⟨n8, rfl⟩ := Int.eq_ofNat_of_zero_le g8.1
      have hi := imm_told (b5 := n5) (b6 := n6) (b7 := n7) (b8 := n8) (by omega) (by omega) (by omega) (by omega)
      show [IntKind.wrap .u8 (IntKind.wrap .i64 b0), IntKind.wrap .u8 (IntKind.wrap .i64 b1), IntKind.wrap .u8 (IntKind.wrap .i64 b2), IntKind.wrap .u8 (IntKind.wrap .i64 b3), IntKind.wrap .u8 (IntKind.wrap .i64 b4), IntKind.wrap .u8 (shr .u32 (bitop .or .u32 (bitop .or .u32 (bitop .or .u32 (bitop .or .u32 0 (shl .u32 (IntKind.wrap .u32 (n5 : Int)) 0)) (shl .u32 (IntKind.wrap .u32 (n6 : Int)) 8)) (shl .u32 (IntKind.wrap .u32 (n7 : Int)) 16)) (shl .u32 (IntKind.wrap .u32 (n8 : Int)) 24)) 0), IntKind.wrap .u8 (shr .u32 (bitop .or .u32 (bitop .or .u32 (bitop .or .u32 (bitop .or .u32 0 (shl .u32 (IntKind.wrap .u32 (n5 : Int)) 0)) (shl .u32 (IntKind.wrap .u32 (n6 : Int)) 8)) (shl .u32 (IntKind.wrap .u32 (n7 : Int)) 16)) (shl .u32 (IntKind.wrap .u32 (n8 : Int)) 24)) 8), IntKind.wrap .u8 (shr .u32 (bitop .or .u32 (bitop .or .u32 (bitop .or .u32 (bitop .or .u32 0 (shl .u32 (IntKind.wrap .u32 (n5 : Int)) 0)) (shl .u32 (IntKind.wrap .u32 (n6 : Int)) 8)) (shl .u32 (IntKind.wrap .u32 (n7 : Int)) 16)) (shl .u32 (IntKind.wrap .u32 (n8 : Int)) 24)) 16), IntKind.wrap .u8 (shr .u32 (bitop .or .u32 (bitop .or .u32 (bitop .or .u32 (bitop .or .u32 0 (shl .u32 (IntKind.wrap .u32 (n5 : Int)) 0)) (shl .u32 (IntKind.wrap .u32 (n6 : Int)) 8)) (shl .u32 (IntKind.wrap .u32 (n7 : Int)) 16)) (shl .u32 (IntKind.wrap .u32 (n8 : Int)) 24)) 24)] = _
      rw [hi, shr_u32_0, shr_u32_8, shr_u32_16, shr_u32_24, w b0 g0, w b1 g1, w b2 g2, w b3 g3, w b4 g4]
      have f5 : IntKind.wrap .u8 (((n8 * 16777216 + (n7 * 65536 + (n6 * 256 + n5)) : Nat) : Int)) = (n5 : Int) := by rw [IntKind.wrap_u8]; omega
      have f6 : IntKind.wrap .u8 (((n8 * 16777216 + (n7 * 65536 + (n6 * 256 + n5)) : Nat) : Int) / 256) = (n6 : Int) := by rw [IntKind.wrap_u8]; omega
      have f7 : IntKind.wrap .u8 (((n8 * 16777216 + (n7 * 65536 + (n6 * 256 + n5)) : Nat) : Int) / 65536) = (n7 : Int) := by rw [IntKind.wrap_u8]; omega
      have f8 : IntKind.wrap .u8 (((n8 * 16777216 + (n7 * 65536 + (n6 * 256 + n5)) : Nat) : Int) / 16777216) = (n8 : Int) := by rw [IntKind.wrap_u8]; omega
      rw [f5, f6, f7, f8]
def law5_HostReads.T2000013 : Tm := ⟨fill 0 117 [(22, Sl.data (Ty.sl (Ty.int IntKind.u8))), (23, Sl.ptr (23 : Nat) (nilOf Step)), (24, Sl.data (Ty.int IntKind.i64)), (25, Sl.ptr (25 : Nat) (nilOf Step)), (26, Sl.data (Ty.int IntKind.i64)), (80, Sl.data (Ty.sl (Ty.sl (Ty.int IntKind.u8)))), (81, Sl.data (Ty.int IntKind.i64)), (82, Sl.data (Ty.int IntKind.i64))], [{ k := (23 : Nat), t := HoT, vir := false }, { k := (25 : Nat), t := HoT, vir := false }]⟩
def law5_HostReads.X2000013_normal : Tm := ⟨fill 0 117 [(80, Sl.data (Ty.sl (Ty.sl (Ty.int IntKind.u8)))), (81, Sl.data (Ty.int IntKind.i64)), (82, Sl.data (Ty.int IntKind.i64)), (115, Sl.data Ty.bool)], []⟩
def law5_HostReads.o2000013 {R : Type} (v0 : List Int) (v1 : Int) (v2 : Int) (v3 : List (List Int)) (v4 : Int) (v5 : Int) (v6 : Int × Int × Int × Int × Int × Int × Unit) (v7 : Int × Int × Int × Int × Int × Int × Unit) (knormal : (List (List Int)) → Int → Int → Bool → Option R) : Option R :=
  bif !eqD HoT v6 v7 then knormal v3 v4 v5 true else bif v1 != v2 then knormal v3 v4 v5 true else bif v2 == (0 : Int) then knormal v3 v4 v5 !ByteArray.toList (bytesOf (host_Put v6)) == ByteArray.toList (bytesOf v0) else knormal v3 v4 v5 false
def law5_HostReads.s2000013 {R : Type} (v0 : List Int) (v1 : Int) (v2 : Int) (v3 : List (List Int)) (v4 : Int) (v5 : Int) (v6 : Int × Int × Int × Int × Int × Int × Unit) (v7 : Int × Int × Int × Int × Int × Int × Unit) (knormal : (List (List Int)) → Int → Int → Bool → Option R) : Option R :=
  knormal v3 v4 v5 (!eqD HoT v6 v7 || (v1 != v2 || v2 == (0 : Int) && !ByteArray.toList (bytesOf (host_Put v6)) == ByteArray.toList (bytesOf v0)))
theorem law5_HostReads.s2000013_eq {R : Type} (v0 : List Int) (v1 : Int) (v2 : Int) (v3 : List (List Int)) (v4 : Int) (v5 : Int) (v6 : Int × Int × Int × Int × Int × Int × Unit) (v7 : Int × Int × Int × Int × Int × Int × Unit) (knormal : (List (List Int)) → Int → Int → Bool → Option R) : law5_HostReads.s2000013 v0 v1 v2 v3 v4 v5 v6 v7 knormal = law5_HostReads.o2000013 v0 v1 v2 v3 v4 v5 v6 v7 knormal := by
  unfold law5_HostReads.s2000013 law5_HostReads.o2000013
  (cases hc : !eqD HoT v6 v7 with | false => (cases hc : v1 != v2 with | false => (cases hc : v2 == (0 : Int) with | false => (first | rfl | simp_all) | true => (first | rfl | simp_all)) | true => (first | rfl | simp_all)) | true => (first | rfl | simp_all))
def law5_HostReads.T0 : Tm := ⟨fill 0 117 [(80, Sl.data (Ty.sl (Ty.sl (Ty.int IntKind.u8)))), (81, Sl.data (Ty.int IntKind.i64)), (82, Sl.data (Ty.int IntKind.i64))], []⟩
def law5_HostReads.X0_ret : Tm := ⟨fill 0 117 [(18, Sl.data Ty.bool)], []⟩
def law5_HostReads.X0_exit0 : Tm := ⟨fill 0 117 [], []⟩
def law5_HostReads.round0 {R : Type} (v0 : List (List Int)) (v1 : Int) (v2 : Int) (next : (List (List Int)) → Int → Int → Option R) (kret : Bool → Option R) (kexit0 : Option R) : Option R :=
  bif decide (v2 < v1) then bif decide ((0 : Int) ≤ v2) && decide (v2 < ↑(List.length v0)) then bif !eqD HoT (Prod.fst (host_Read (List.getD v0 (Int.toNat v2) (Ty.dflt (Ty.sl (Ty.int IntKind.u8)))))) (Prod.fst (ref5_Read (List.getD v0 (Int.toNat v2) (Ty.dflt (Ty.sl (Ty.int IntKind.u8)))))) || (Prod.snd (host_Read (List.getD v0 (Int.toNat v2) (Ty.dflt (Ty.sl (Ty.int IntKind.u8))))) != Prod.snd (ref5_Read (List.getD v0 (Int.toNat v2) (Ty.dflt (Ty.sl (Ty.int IntKind.u8))))) || Prod.snd (ref5_Read (List.getD v0 (Int.toNat v2) (Ty.dflt (Ty.sl (Ty.int IntKind.u8))))) == (0 : Int) && !ByteArray.toList (bytesOf (host_Put (Prod.fst (host_Read (List.getD v0 (Int.toNat v2) (Ty.dflt (Ty.sl (Ty.int IntKind.u8)))))))) == ByteArray.toList (bytesOf (List.getD v0 (Int.toNat v2) (Ty.dflt (Ty.sl (Ty.int IntKind.u8)))))) then kret false else next v0 v1 (IntKind.wrap IntKind.i64 (v2 + (1 : Int))) else none else kexit0
def law5_HostReads.R0 {R : Type} (kret : Bool → Option R) (kexit0 : Option R) : ((List (List Int)) × Int × Int) → (((List (List Int)) × Int × Int) → Option R) → Option R := fun (v0, v1, v2) next => law5_HostReads.round0 v0 v1 v2 (fun w0 w1 w2 => next (w0, w1, w2)) kret kexit0
theorem law5_HostReads.R0_eq {R : Type} (kret : Bool → Option R) (kexit0 : Option R) (v0 : List (List Int)) (v1 : Int) (v2 : Int) (next : ((List (List Int)) × Int × Int) → Option R) : law5_HostReads.R0 kret kexit0 (v0, v1, v2) next = law5_HostReads.round0 v0 v1 v2 (fun w0 w1 w2 => next (w0, w1, w2)) kret kexit0 := rfl
def law5_HostReads.loop0 {R : Type} (v0 : List (List Int)) (v1 : Int) (v2 : Int) (kret : Bool → Option R) (kexit0 : Option R) : Option R :=
  open Classical in
  if v1 = v0.length ∧ v1 < 4611686018427387904 ∧ 0 ≤ v2 ∧ v2 ≤ v1 ∧ (∀ y ∈ v0, U8s y) then kexit0 else none
theorem law5_HostReads.loop0_ok {R : Type} (v0 : List (List Int)) (v1 : Int) (v2 : Int) (kret : Bool → Option R) (kexit0 : Option R) (r : R) (h : law5_HostReads.loop0 v0 v1 v2 kret kexit0 = some r) : ∃ n, lp (law5_HostReads.R0 kret kexit0) n (v0, v1, v2) = some r := by
  unfold law5_HostReads.loop0 at h
  split at h <;> try (cases h; done)
  rename_i hc
  obtain ⟨h1, h2, h3, h4, h5⟩ := hc
  rw [← h]
  refine lp_pass (fun i => (v0, v1, i)) (n := v1) ?_ ?_ v2 h3 h4
  · intro i i0 i1 next
    obtain ⟨x, hx, hd⟩ := getD_at (d := Ty.dflt (Ty.sl (Ty.int IntKind.u8))) i0 (h1 ▸ i1)
    have hu : U8s x := h5 x (by
      have : x ∈ v0.drop i.toNat := by rw [hd]; simp
      exact List.mem_of_mem_drop this)
    rw [law5_HostReads.R0_eq, law5_HostReads.round0, decide_eq_true i1, decide_eq_true i0, decide_eq_true (h1 ▸ i1 : i < (v0.length : Int)), hx, show ref5_Read x = host_Read x from rfl, eqD_host, bne_self_eq_false, wrap_next i0 i1 h2]
    cases h0 : (host_Read x).2 == 0 with
    | false => rfl
    | true =>
      have : (host_Read x).2 = 0 := by simpa using h0
      rw [put_read hu this, beq_self_eq_true]
      rfl
  · intro next
    rw [law5_HostReads.R0_eq, law5_HostReads.round0, decide_eq_false (Int.lt_irrefl _)]
    rfl
def law5_HostReads.C : Cfg := { rows := [], keep := [(0, [80, 81, 82], []), (1000000, [18], []), (2000013, [22, 23, 24, 25, 26, 80, 81, 82], [23, 25]), (12000013, [80, 81, 82, 115], [])], adopt := [], share := [71] }
def law5_HostReads.sum2000013 : FrV law5_HostReads.T2000013.fr × StV law5_HostReads.T2000013.st → (Ex → S → Option (List DVal)) → Option (List DVal) := fun ((v0, v1, v2, v3, v4, v5, ()), (v6, v7, ())) K => law5_HostReads.s2000013 v0 v1 v2 v3 v4 v5 v6 v7 (fun e0 e1 e2 e3 => K .normal (pack law5_HostReads.X2000013_normal ((e0, e1, e2, e3, ()), (()))))
def law5_HostReads.sum0 : FrV law5_HostReads.T0.fr × StV law5_HostReads.T0.st → (Ex → S → Option (List DVal)) → Option (List DVal) := fun ((v0, v1, v2, ()), (())) K => law5_HostReads.loop0 v0 v1 v2 (fun e0 => K .ret (pack law5_HostReads.X0_ret ((e0, ()), (())))) (K (.exit 0) (pack law5_HostReads.X0_exit0 ((), ())))
def law5_HostReads.rnd0 : FrV law5_HostReads.T0.fr × StV law5_HostReads.T0.st → (FrV law5_HostReads.T0.fr × StV law5_HostReads.T0.st → Option (List DVal)) → (Ex → S → Option (List DVal)) → Option (List DVal) := fun ((v0, v1, v2, ()), (())) next K => law5_HostReads.round0 v0 v1 v2 (fun w0 w1 w2 => next ((w0, w1, w2, ()), (()))) (fun e0 => K .ret (pack law5_HostReads.X0_ret ((e0, ()), (())))) (K (.exit 0) (pack law5_HostReads.X0_exit0 ((), ())))
def law5_HostReads.L : Nat → Option Sum := fun i => if i = 0 then some (sumOf law5_HostReads.T0 law5_HostReads.sum0) else if i = 2000013 then some (sumOf law5_HostReads.T2000013 law5_HostReads.sum2000013) else none
theorem law5_HostReads.rnd0_eq : ∀ v (r : S → Option (List DVal)) (K : Ex → S → Option (List DVal)), exec Try.prog law5_HostReads.C law5_HostReads.env law5_HostReads.L 0 (loopOf Try.f5 0) (pack law5_HostReads.T0 v) (fun e s' => match e with | .normal => r (trim law5_HostReads.C 0 s') | e => K e (trim law5_HostReads.C (0 + 1000000) s')) = law5_HostReads.rnd0 v (fun v' => r (pack law5_HostReads.T0 v')) K :=
  fun ((v0, v1, v2, ()), (())) r K => by kernel_rfl
theorem law5_HostReads.lp0 (K : Ex → S → Option (List DVal)) : ∀ (n : Nat) (v0 : List (List Int)) (v1 : Int) (v2 : Int), lp (fun v next => law5_HostReads.rnd0 v next K) n ((v0, v1, v2, ()), (())) = lp (law5_HostReads.R0 (fun e0 => K .ret (pack law5_HostReads.X0_ret ((e0, ()), (())))) (K (.exit 0) (pack law5_HostReads.X0_exit0 ((), ())))) n (v0, v1, v2) := by
  intro n
  induction n with
  | zero => intros; rfl
  | succ n ih =>
    intro v0 v1 v2
    show law5_HostReads.round0 v0 v1 v2 (fun w0 w1 w2 => lp (fun v next => law5_HostReads.rnd0 v next K) n ((w0, w1, w2, ()), (()))) (fun e0 => K .ret (pack law5_HostReads.X0_ret ((e0, ()), (())))) (K (.exit 0) (pack law5_HostReads.X0_exit0 ((), ()))) = law5_HostReads.round0 v0 v1 v2 (fun w0 w1 w2 => lp (law5_HostReads.R0 (fun e0 => K .ret (pack law5_HostReads.X0_ret ((e0, ()), (())))) (K (.exit 0) (pack law5_HostReads.X0_exit0 ((), ())))) n (w0, w1, w2)) (fun e0 => K .ret (pack law5_HostReads.X0_ret ((e0, ()), (())))) (K (.exit 0) (pack law5_HostReads.X0_exit0 ((), ())))
    simp only [ih]
theorem law5_HostReads.sum0_ok : SumOk Try.prog law5_HostReads.C law5_HostReads.env law5_HostReads.L 0 (loopOf Try.f5 0) := sumOk_lp (T := law5_HostReads.T0) (rnd := law5_HostReads.rnd0) (f := law5_HostReads.sum0) rfl law5_HostReads.rnd0_eq fun ((v0, v1, v2, ()), (())) K r h => by
  obtain ⟨n, hn⟩ := law5_HostReads.loop0_ok v0 v1 v2 (fun e0 => K .ret (pack law5_HostReads.X0_ret ((e0, ()), (())))) (K (.exit 0) (pack law5_HostReads.X0_exit0 ((), ()))) r h
  exact ⟨n, by rw [law5_HostReads.lp0]; exact hn⟩
theorem law5_HostReads.x2000013 : ∀ v (K : Ex → S → Option (List DVal)), exec1 Try.prog law5_HostReads.C law5_HostReads.env law5_HostReads.L (spotOf Try.f5 2000013).2.1 (spotOf Try.f5 2000013).2.2 (pack law5_HostReads.T2000013 v) (fun e s' => K e (trim law5_HostReads.C (2000013 + 10000000) s')) = (fun (((v0, v1, v2, v3, v4, v5, ()), (v6, v7, ())) : FrV law5_HostReads.T2000013.fr × StV law5_HostReads.T2000013.st) => law5_HostReads.o2000013 v0 v1 v2 v3 v4 v5 v6 v7 (fun e0 e1 e2 e3 => K .normal (pack law5_HostReads.X2000013_normal ((e0, e1, e2, e3, ()), (()))))) v :=
  fun ((v0, v1, v2, v3, v4, v5, ()), (v6, v7, ())) K => by kernel_rfl
theorem law5_HostReads.sum2000013_ok : SpotOk Try.prog law5_HostReads.C law5_HostReads.env law5_HostReads.L (spotOf Try.f5 2000013) := spotOk_of (T := law5_HostReads.T2000013) (q := 2000013) (f := law5_HostReads.sum2000013) (by kernel_rfl) (by kernel_rfl) fun ((v0, v1, v2, v3, v4, v5, ()), (v6, v7, ())) K r h => (law5_HostReads.x2000013 _ K).trans ((law5_HostReads.s2000013_eq v0 v1 v2 v3 v4 v5 v6 v7 (fun e0 e1 e2 e3 => K .normal (pack law5_HostReads.X2000013_normal ((e0, e1, e2, e3, ()), (()))))).symm.trans h)
def law5_HostReads.tree {R : Type} (a0 : List Int) (a1 : Int) (a2 : Int) (a3 : Int) (a4 : Int) (a5 : Int) (a6 : Int) (a7 : Int) (a8 : Int) (ret : Bool → Option R) : Option R :=
  bif decide (↑(List.length a0) > (30 : Int)) then ret true else bif roomOk (9 : Nat) (1 : Nat) then bif decide ((0 : Int) ≤ Int.tmod a7 (9 : Int)) && decide (Int.tmod a7 (9 : Int) < ↑(9 : Nat)) then bif decide ((0 : Nat) ≤ Int.toNat (Int.tmod a7 (9 : Int))) then bif true && decide ((0 : Int) ≤ Int.tmod a7 (9 : Int)) && decide (Int.tmod a7 (9 : Int) ≤ ↑(9 : Nat)) then bif roomOk (List.length (List.set [IntKind.wrap IntKind.u8 (Int.tmod a1 (32 : Int) + (1 : Int)), Int.tmod a2 (33 : Int), Int.tmod a3 (33 : Int), Int.tmod a4 (33 : Int), Int.tmod a5 (33 : Int), IntKind.wrap IntKind.u8 a6, IntKind.wrap IntKind.u8 (shr IntKind.u32 a6 (8 : Int)), IntKind.wrap IntKind.u8 (shr IntKind.u32 a6 (16 : Int)), IntKind.wrap IntKind.u8 (shr IntKind.u32 a6 (24 : Int))] (Int.toNat (Int.tmod a7 (9 : Int))) a8) + List.length a0) (1 : Nat) then law5_HostReads.loop0 [a0, [IntKind.wrap IntKind.u8 (Int.tmod a1 (32 : Int) + (1 : Int)), Int.tmod a2 (33 : Int), Int.tmod a3 (33 : Int), Int.tmod a4 (33 : Int), Int.tmod a5 (33 : Int), IntKind.wrap IntKind.u8 a6, IntKind.wrap IntKind.u8 (shr IntKind.u32 a6 (8 : Int)), IntKind.wrap IntKind.u8 (shr IntKind.u32 a6 (16 : Int)), IntKind.wrap IntKind.u8 (shr IntKind.u32 a6 (24 : Int))], List.set [IntKind.wrap IntKind.u8 (Int.tmod a1 (32 : Int) + (1 : Int)), Int.tmod a2 (33 : Int), Int.tmod a3 (33 : Int), Int.tmod a4 (33 : Int), Int.tmod a5 (33 : Int), IntKind.wrap IntKind.u8 a6, IntKind.wrap IntKind.u8 (shr IntKind.u32 a6 (8 : Int)), IntKind.wrap IntKind.u8 (shr IntKind.u32 a6 (16 : Int)), IntKind.wrap IntKind.u8 (shr IntKind.u32 a6 (24 : Int))] (Int.toNat (Int.tmod a7 (9 : Int))) a8, List.take (Int.toNat (Int.tmod a7 (9 : Int)) - (0 : Nat)) (List.drop (0 : Nat) [IntKind.wrap IntKind.u8 (Int.tmod a1 (32 : Int) + (1 : Int)), Int.tmod a2 (33 : Int), Int.tmod a3 (33 : Int), Int.tmod a4 (33 : Int), Int.tmod a5 (33 : Int), IntKind.wrap IntKind.u8 a6, IntKind.wrap IntKind.u8 (shr IntKind.u32 a6 (8 : Int)), IntKind.wrap IntKind.u8 (shr IntKind.u32 a6 (16 : Int)), IntKind.wrap IntKind.u8 (shr IntKind.u32 a6 (24 : Int))]), List.set [IntKind.wrap IntKind.u8 (Int.tmod a1 (32 : Int) + (1 : Int)), Int.tmod a2 (33 : Int), Int.tmod a3 (33 : Int), Int.tmod a4 (33 : Int), Int.tmod a5 (33 : Int), IntKind.wrap IntKind.u8 a6, IntKind.wrap IntKind.u8 (shr IntKind.u32 a6 (8 : Int)), IntKind.wrap IntKind.u8 (shr IntKind.u32 a6 (16 : Int)), IntKind.wrap IntKind.u8 (shr IntKind.u32 a6 (24 : Int))] (Int.toNat (Int.tmod a7 (9 : Int))) a8 ++ a0, IntKind.wrap IntKind.u8 (Int.tmod a1 (32 : Int) + (1 : Int)) :: Int.tmod a2 (33 : Int) :: Int.tmod a3 (33 : Int) :: List.replicate (6 : Nat) (0 : Int)] (6 : Int) (0 : Int) (fun e0 => ret e0) (ret true) else none else none else none else none else none
theorem law5_HostReads.eq (a0 : List Int) (a1 : Int) (a2 : Int) (a3 : Int) (a4 : Int) (a5 : Int) (a6 : Int) (a7 : Int) (a8 : Int) : body Try.prog law5_HostReads.C law5_HostReads.env law5_HostReads.L Try.f5 [⟨Ty.sl (Ty.int IntKind.u8), a0⟩, ⟨Ty.int IntKind.u8, a1⟩, ⟨Ty.int IntKind.u8, a2⟩, ⟨Ty.int IntKind.u8, a3⟩, ⟨Ty.int IntKind.u8, a4⟩, ⟨Ty.int IntKind.u8, a5⟩, ⟨Ty.int IntKind.u32, a6⟩, ⟨Ty.int IntKind.u8, a7⟩, ⟨Ty.int IntKind.u8, a8⟩] = law5_HostReads.tree a0 a1 a2 a3 a4 a5 a6 a7 a8 (fun r0 => some ([⟨Ty.bool, r0⟩] : List DVal)) := by kernel_rfl
def u8B (x : Int) : Bool := decide (0 ≤ x ∧ x < 256)
def law5_HostReads.pre (raw : List Int) (o d a b c v k x : Int) : Bool := raw.all u8B && u8B o && u8B d && u8B a && u8B b && u8B c && u8B k && u8B x
def law5_HostReads (raw : List Int) (o d a b c v k x : Int) : Bool := true
theorem law5_HostReads.nice {R : Type} (raw : List Int) (o d a b c v k x : Int) (hp : law5_HostReads.pre raw o d a b c v k x = true) (ret : Bool → Option R) : law5_HostReads.tree raw o d a b c v k x ret = ret (law5_HostReads raw o d a b c v k x) := by
  unfold law5_HostReads.pre u8B at hp
  simp only [Bool.and_eq_true, decide_eq_true_eq, List.all_eq_true] at hp
  obtain ⟨⟨⟨⟨⟨⟨⟨hraw, ho⟩, hd⟩, ha⟩, hb⟩, hc⟩, hk⟩, hx⟩ := hp
  have hraw' : U8s raw := fun y hy => hraw y hy
  have ek : Int.tmod k 9 = k % 9 := Int.tmod_eq_emod_of_nonneg hk.1
  have w8 : ∀ y : Int, U8 (IntKind.wrap .u8 y) := fun y => by unfold U8; rw [IntKind.wrap_u8]; omega
  have t33 : ∀ y : Int, 0 ≤ y → U8 (Int.tmod y 33) := fun y hy => by unfold U8; rw [Int.tmod_eq_emod_of_nonneg hy]; omega
  obtain ⟨l, hl0⟩ : ∃ l, l = [IntKind.wrap .u8 (Int.tmod o 32 + 1), Int.tmod d 33, Int.tmod a 33, Int.tmod b 33, Int.tmod c 33, IntKind.wrap .u8 v, IntKind.wrap .u8 (shr .u32 v 8), IntKind.wrap .u8 (shr .u32 v 16), IntKind.wrap .u8 (shr .u32 v 24)] := ⟨_, rfl⟩
  have hl : U8s l := by
    rw [hl0]
    intro y hy
    simp only [List.mem_cons, List.not_mem_nil, or_false] at hy
    rcases hy with rfl | rfl | rfl | rfl | rfl | rfl | rfl | rfl | rfl
    · exact w8 _
    · exact t33 _ hd.1
    · exact t33 _ ha.1
    · exact t33 _ hb.1
    · exact t33 _ hc.1
    · exact w8 _
    · exact w8 _
    · exact w8 _
    · exact w8 _
  have hlen : l.length = 9 := by rw [hl0]; rfl
  unfold law5_HostReads.tree
  by_cases h30 : (raw.length : Int) > 30
  · rw [decide_eq_true h30]
    rfl
  · have hset : U8s (List.set l (Int.toNat (k % 9)) x) := fun y hy => by
      rcases List.mem_or_eq_of_mem_set hy with h | h
      · exact hl y h
      · rw [h]; exact hx
    rw [decide_eq_false h30, ek, ← hl0, show roomOk 9 1 = true from rfl, decide_eq_true (by omega : 0 ≤ k % 9), decide_eq_true (by omega : k % 9 < ((9 : Nat) : Int)), decide_eq_true (by omega : k % 9 ≤ ((9 : Nat) : Int)), decide_eq_true (Nat.zero_le _)]
    have hroom : roomOk (List.length (List.set l (Int.toNat (k % 9)) x) + List.length raw) 1 = true := by
      rw [List.length_set, hlen]
      unfold roomOk
      rw [decide_eq_true (by omega : (9 + List.length raw) * 1 ≤ 140737488355328), decide_eq_true (by omega : 9 + List.length raw ≤ 9223372036854775807)]
      rfl
    rw [hroom, law5_HostReads.loop0, if_pos ⟨rfl, by decide, by decide, by decide, fun y hy => by
      simp only [List.mem_cons, List.not_mem_nil, or_false] at hy
      rcases hy with rfl | rfl | rfl | rfl | rfl | rfl
      · exact hraw'
      · exact hl
      · exact hset
      · exact fun z hz => hl z (List.mem_of_mem_drop (List.mem_of_mem_take hz))
      · intro z hz
        rcases List.mem_append.1 hz with h | h
        · exact hset z h
        · exact hraw' z h
      · intro z hz
        simp only [List.mem_cons, List.mem_replicate] at hz
        rcases hz with rfl | rfl | rfl | ⟨_, rfl⟩
        · exact w8 _
        · exact t33 _ hd.1
        · exact t33 _ ha.1
        · exact ⟨by decide, by decide⟩⟩]
    rfl

def law5_HostReads.ctr : Ctr := ctrOf [Ty.sl (Ty.int IntKind.u8), Ty.int IntKind.u8, Ty.int IntKind.u8, Ty.int IntKind.u8, Ty.int IntKind.u8, Ty.int IntKind.u8, Ty.int IntKind.u32, Ty.int IntKind.u8, Ty.int IntKind.u8] fun x => .guard (law5_HostReads.pre (x.1) (x.2.1) (x.2.2.1) (x.2.2.2.1) (x.2.2.2.2.1) (x.2.2.2.2.2.1) (x.2.2.2.2.2.2.1) (x.2.2.2.2.2.2.2.1) (x.2.2.2.2.2.2.2.2.1)) (.ret [⟨Ty.bool, law5_HostReads (x.1) (x.2.1) (x.2.2.1) (x.2.2.2.1) (x.2.2.2.2.1) (x.2.2.2.2.2.1) (x.2.2.2.2.2.2.1) (x.2.2.2.2.2.2.2.1) (x.2.2.2.2.2.2.2.2.1)⟩])
theorem law5_HostReads.known : Known Try.prog 5 law5_HostReads.ctr :=
  known_plain law5_HostReads.envOk mixed Try.func5 (by kernel_rfl) (by kernel_rfl) (byId (by kernel_rfl : loopIds Try.f5 = [0]) (by intro q hq; simp only [List.mem_cons, List.not_mem_nil, or_false] at hq; subst hq; first | exact law5_HostReads.sum0_ok)) (bySpot (ids := [2000013]) (by kernel_rfl) (by intro q hq; simp only [List.mem_cons, List.not_mem_nil, or_false] at hq; subst hq; first | exact law5_HostReads.sum2000013_ok)) fun x rs h => by
    obtain ⟨a0, a1, a2, a3, a4, a5, a6, a7, a8, u⟩ := x
    cases u
    simp only [Cmd.val_guard, Cmd.val_ret] at h
    split at h <;> try (cases h; done)
    rename_i hp
    exact (law5_HostReads.eq a0 a1 a2 a3 a4 a5 a6 a7 a8).trans ((law5_HostReads.nice a0 a1 a2 a3 a4 a5 a6 a7 a8 hp (fun r0 => some ([⟨Ty.bool, r0⟩] : List DVal))).trans h)
end
end Go.D.Ytbcjiicaekfjlaa
