import Derived.Test.YtbcjiicaekfjlaaChecked
import Derived.Test.YtbcjiicaekfjlaaDX
import Derived.KernelRfl
import Derived.Test.YtbcjiicaekfjlaaLhost
namespace Go.D.Ytbcjiicaekfjlaa
open Go.Proofs
set_option linter.unusedVariables false
set_option linter.unusedSimpArgs false
set_option maxRecDepth 100000
noncomputable section
theorem nine {l : List Int} (h : 9 ≤ l.length) : ∃ b0 b1 b2 b3 b4 b5 b6 b7 b8 t, l = b0 :: b1 :: b2 :: b3 :: b4 :: b5 :: b6 :: b7 :: b8 :: t := by
  match l, h with
  | b0 :: b1 :: b2 :: b3 :: b4 :: b5 :: b6 :: b7 :: b8 :: t, _ => exact ⟨b0, b1, b2, b3, b4, b5, b6, b7, b8, t, rfl⟩
def readHost (b : List Int) : Hos := (IntKind.wrap .i64 (b.getD 0 0), IntKind.wrap .i64 (b.getD 1 0), IntKind.wrap .i64 (b.getD 2 0), IntKind.wrap .i64 (b.getD 3 0), IntKind.wrap .i64 (b.getD 4 0), bitop .or .u32 (bitop .or .u32 (bitop .or .u32 (bitop .or .u32 0 (shl .u32 (IntKind.wrap .u32 (b.getD 5 0)) 0)) (shl .u32 (IntKind.wrap .u32 (b.getD 6 0)) 8)) (shl .u32 (IntKind.wrap .u32 (b.getD 7 0)) 16)) (shl .u32 (IntKind.wrap .u32 (b.getD 8 0)) 24), ())
def noHost : Hos := (0, 0, 0, 0, 0, 0, ())

/-! ### host_Read -/
def host_Read.env : Env := envCons 16 host_Right.ctr <| envNil
theorem host_Read.envOk : EnvOk Try.prog host_Read.env := envOk_cons host_Right.known (envOk_nil _)
def host_Read.T0 : Tm := ⟨fill 0 60 [(0, Sl.data (Ty.sl (Ty.int IntKind.u8))), (2, Sl.ptr (2 : Nat) (nilOf Step)), (4, Sl.ptr (4 : Nat) (nilOf Step)), (33, Sl.data (Ty.sl (Ty.int IntKind.u8))), (34, Sl.data (Ty.int IntKind.i64)), (35, Sl.data (Ty.int IntKind.i64))], [{ k := (2 : Nat), t := HoT, vir := false }, { k := (4 : Nat), t := HoT, vir := false }]⟩
def host_Read.X0_exit0 : Tm := ⟨fill 0 60 [(0, Sl.data (Ty.sl (Ty.int IntKind.u8))), (2, Sl.ptr (2 : Nat) (nilOf Step)), (4, Sl.ptr (4 : Nat) (nilOf Step))], [{ k := (2 : Nat), t := HoT, vir := false }, { k := (4 : Nat), t := HoT, vir := false }]⟩
def host_Read.round0 {R : Type} (v0 : List Int) (v1 : List Int) (v2 : Int) (v3 : Int) (v4 : Int × Int × Int × Int × Int × Int × Unit) (v5 : Int × Int × Int × Int × Int × Int × Unit) (next : (List Int) → (List Int) → Int → Int → (Int × Int × Int × Int × Int × Int × Unit) → (Int × Int × Int × Int × Int × Int × Unit) → Option R) (kexit0 : (List Int) → (Int × Int × Int × Int × Int × Int × Unit) → (Int × Int × Int × Int × Int × Int × Unit) → Option R) : Option R :=
  bif decide (v3 < v2) then bif decide ((0 : Int) ≤ v3) && decide (v3 < ↑(List.length v1)) then bif decide ((0 : Int) ≤ IntKind.wrap IntKind.i64 ((8 : Int) * v3)) then next v0 v1 v2 (IntKind.wrap IntKind.i64 (v3 + (1 : Int))) v4 (Prod.fst v5, Prod.fst (Prod.snd v5), Prod.fst (Prod.snd (Prod.snd v5)), Prod.fst (Prod.snd (Prod.snd (Prod.snd v5))), Prod.fst (Prod.snd (Prod.snd (Prod.snd (Prod.snd v5)))), bitop BinOp.or IntKind.u32 (Prod.fst (Prod.snd (Prod.snd (Prod.snd (Prod.snd (Prod.snd v5)))))) (shl IntKind.u32 (IntKind.wrap IntKind.u32 (List.getD v1 (Int.toNat v3) (0 : Int))) (IntKind.wrap IntKind.i64 ((8 : Int) * v3))), ()) else none else none else kexit0 v0 v4 v5
def host_Read.R0 {R : Type} (kexit0 : (List Int) → (Int × Int × Int × Int × Int × Int × Unit) → (Int × Int × Int × Int × Int × Int × Unit) → Option R) : ((List Int) × (List Int) × Int × Int × (Int × Int × Int × Int × Int × Int × Unit) × (Int × Int × Int × Int × Int × Int × Unit)) → (((List Int) × (List Int) × Int × Int × (Int × Int × Int × Int × Int × Int × Unit) × (Int × Int × Int × Int × Int × Int × Unit)) → Option R) → Option R := fun (v0, v1, v2, v3, v4, v5) next => host_Read.round0 v0 v1 v2 v3 v4 v5 (fun w0 w1 w2 w3 w4 w5 => next (w0, w1, w2, w3, w4, w5)) kexit0
theorem host_Read.R0_eq {R : Type} (kexit0 : (List Int) → (Int × Int × Int × Int × Int × Int × Unit) → (Int × Int × Int × Int × Int × Int × Unit) → Option R) (v0 : List Int) (v1 : List Int) (v2 : Int) (v3 : Int) (v4 : Int × Int × Int × Int × Int × Int × Unit) (v5 : Int × Int × Int × Int × Int × Int × Unit) (next : ((List Int) × (List Int) × Int × Int × (Int × Int × Int × Int × Int × Int × Unit) × (Int × Int × Int × Int × Int × Int × Unit)) → Option R) : host_Read.R0 kexit0 (v0, v1, v2, v3, v4, v5) next = host_Read.round0 v0 v1 v2 v3 v4 v5 (fun w0 w1 w2 w3 w4 w5 => next (w0, w1, w2, w3, w4, w5)) kexit0 := rfl
def host_Read.loop0 {R : Type} (v0 : List Int) (v1 : List Int) (v2 : Int) (v3 : Int) (v4 : Int × Int × Int × Int × Int × Int × Unit) (v5 : Int × Int × Int × Int × Int × Int × Unit) (kexit0 : (List Int) → (Int × Int × Int × Int × Int × Int × Unit) → (Int × Int × Int × Int × Int × Int × Unit) → Option R) : Option R := lp (host_Read.R0 kexit0) 5 (v0, v1, v2, v3, v4, v5)
theorem host_Read.loop0_ok {R : Type} (v0 : List Int) (v1 : List Int) (v2 : Int) (v3 : Int) (v4 : Int × Int × Int × Int × Int × Int × Unit) (v5 : Int × Int × Int × Int × Int × Int × Unit) (kexit0 : (List Int) → (Int × Int × Int × Int × Int × Int × Unit) → (Int × Int × Int × Int × Int × Int × Unit) → Option R) (r : R) (h : host_Read.loop0 v0 v1 v2 v3 v4 v5 kexit0 = some r) : ∃ n, lp (host_Read.R0 kexit0) n (v0, v1, v2, v3, v4, v5) = some r := ⟨5, h⟩
def host_Read.T2000009 : Tm := ⟨fill 0 60 [(0, Sl.data (Ty.sl (Ty.int IntKind.u8))), (2, Sl.ptr (2 : Nat) (nilOf Step)), (4, Sl.ptr (4 : Nat) (nilOf Step))], [{ k := (2 : Nat), t := HoT, vir := false }, { k := (4 : Nat), t := HoT, vir := false }]⟩
def host_Read.X2000009_normal : Tm := ⟨fill 0 60 [(2, Sl.ptr (2 : Nat) (nilOf Step)), (4, Sl.ptr (4 : Nat) (nilOf Step)), (57, Sl.data Ty.bool)], [{ k := (2 : Nat), t := HoT, vir := false }, { k := (4 : Nat), t := HoT, vir := false }]⟩
def host_Read.o2000009 {R : Type} (v0 : List Int) (v1 : Int × Int × Int × Int × Int × Int × Unit) (v2 : Int × Int × Int × Int × Int × Int × Unit) (knormal : Bool → (Int × Int × Int × Int × Int × Int × Unit) → (Int × Int × Int × Int × Int × Int × Unit) → Option R) : Option R :=
  bif decide (↑(List.length v0) > (9 : Int)) then knormal true v1 v2 else knormal (!host_Right v2) v1 v2
def host_Read.s2000009 {R : Type} (v0 : List Int) (v1 : Int × Int × Int × Int × Int × Int × Unit) (v2 : Int × Int × Int × Int × Int × Int × Unit) (knormal : Bool → (Int × Int × Int × Int × Int × Int × Unit) → (Int × Int × Int × Int × Int × Int × Unit) → Option R) : Option R :=
  knormal (decide (↑(List.length v0) > (9 : Int)) || !host_Right v2) v1 v2
theorem host_Read.s2000009_eq {R : Type} (v0 : List Int) (v1 : Int × Int × Int × Int × Int × Int × Unit) (v2 : Int × Int × Int × Int × Int × Int × Unit) (knormal : Bool → (Int × Int × Int × Int × Int × Int × Unit) → (Int × Int × Int × Int × Int × Int × Unit) → Option R) : host_Read.s2000009 v0 v1 v2 knormal = host_Read.o2000009 v0 v1 v2 knormal := by
  unfold host_Read.s2000009 host_Read.o2000009
  (cases hc : decide (↑(List.length v0) > (9 : Int)) with | false => (first | rfl | simp_all) | true => (first | rfl | simp_all))
def host_Read.C : Cfg := { rows := [], keep := [(0, [0, 2, 4, 33, 34, 35], [2, 4]), (1000000, [0, 2, 3, 4], [2, 4]), (2000009, [0, 2, 4], [2, 4]), (12000009, [2, 4, 57], [2, 4])], adopt := [] }
def host_Read.sum2000009 : FrV host_Read.T2000009.fr × StV host_Read.T2000009.st → (Ex → S → Option (List DVal)) → Option (List DVal) := fun ((v0, ()), (v1, v2, ())) K => host_Read.s2000009 v0 v1 v2 (fun e0 e1 e2 => K .normal (pack host_Read.X2000009_normal ((e0, ()), (e1, e2, ()))))
def host_Read.sum0 : FrV host_Read.T0.fr × StV host_Read.T0.st → (Ex → S → Option (List DVal)) → Option (List DVal) := fun ((v0, v1, v2, v3, ()), (v4, v5, ())) K => host_Read.loop0 v0 v1 v2 v3 v4 v5 (fun e0 e1 e2 => K (.exit 0) (pack host_Read.X0_exit0 ((e0, ()), (e1, e2, ()))))
def host_Read.rnd0 : FrV host_Read.T0.fr × StV host_Read.T0.st → (FrV host_Read.T0.fr × StV host_Read.T0.st → Option (List DVal)) → (Ex → S → Option (List DVal)) → Option (List DVal) := fun ((v0, v1, v2, v3, ()), (v4, v5, ())) next K => host_Read.round0 v0 v1 v2 v3 v4 v5 (fun w0 w1 w2 w3 w4 w5 => next ((w0, w1, w2, w3, ()), (w4, w5, ()))) (fun e0 e1 e2 => K (.exit 0) (pack host_Read.X0_exit0 ((e0, ()), (e1, e2, ()))))
def host_Read.L : Nat → Option Sum := fun i => if i = 0 then some (sumOf host_Read.T0 host_Read.sum0) else if i = 2000009 then some (sumOf host_Read.T2000009 host_Read.sum2000009) else none
theorem host_Read.rnd0_eq : ∀ v (r : S → Option (List DVal)) (K : Ex → S → Option (List DVal)), exec Try.prog host_Read.C host_Read.env host_Read.L 0 (loopOf Try.f20 0) (pack host_Read.T0 v) (fun e s' => match e with | .normal => r (trim host_Read.C 0 s') | e => K e (trim host_Read.C (0 + 1000000) s')) = host_Read.rnd0 v (fun v' => r (pack host_Read.T0 v')) K :=
  fun ((v0, v1, v2, v3, ()), (v4, v5, ())) r K => by kernel_rfl
theorem host_Read.lp0 (K : Ex → S → Option (List DVal)) : ∀ (n : Nat) (v0 : List Int) (v1 : List Int) (v2 : Int) (v3 : Int) (v4 : Int × Int × Int × Int × Int × Int × Unit) (v5 : Int × Int × Int × Int × Int × Int × Unit), lp (fun v next => host_Read.rnd0 v next K) n ((v0, v1, v2, v3, ()), (v4, v5, ())) = lp (host_Read.R0 (fun e0 e1 e2 => K (.exit 0) (pack host_Read.X0_exit0 ((e0, ()), (e1, e2, ()))))) n (v0, v1, v2, v3, v4, v5) := by
  intro n
  induction n with
  | zero => intros; rfl
  | succ n ih =>
    intro v0 v1 v2 v3 v4 v5
    show host_Read.round0 v0 v1 v2 v3 v4 v5 (fun w0 w1 w2 w3 w4 w5 => lp (fun v next => host_Read.rnd0 v next K) n ((w0, w1, w2, w3, ()), (w4, w5, ()))) (fun e0 e1 e2 => K (.exit 0) (pack host_Read.X0_exit0 ((e0, ()), (e1, e2, ())))) = host_Read.round0 v0 v1 v2 v3 v4 v5 (fun w0 w1 w2 w3 w4 w5 => lp (host_Read.R0 (fun e0 e1 e2 => K (.exit 0) (pack host_Read.X0_exit0 ((e0, ()), (e1, e2, ()))))) n (w0, w1, w2, w3, w4, w5)) (fun e0 e1 e2 => K (.exit 0) (pack host_Read.X0_exit0 ((e0, ()), (e1, e2, ()))))
    simp only [ih]
theorem host_Read.sum0_ok : SumOk Try.prog host_Read.C host_Read.env host_Read.L 0 (loopOf Try.f20 0) := sumOk_lp (T := host_Read.T0) (rnd := host_Read.rnd0) (f := host_Read.sum0) rfl host_Read.rnd0_eq fun ((v0, v1, v2, v3, ()), (v4, v5, ())) K r h => by
  obtain ⟨n, hn⟩ := host_Read.loop0_ok v0 v1 v2 v3 v4 v5 (fun e0 e1 e2 => K (.exit 0) (pack host_Read.X0_exit0 ((e0, ()), (e1, e2, ())))) r h
  exact ⟨n, by rw [host_Read.lp0]; exact hn⟩
theorem host_Read.x2000009 : ∀ v (K : Ex → S → Option (List DVal)), exec1 Try.prog host_Read.C host_Read.env host_Read.L (spotOf Try.f20 2000009).2.1 (spotOf Try.f20 2000009).2.2 (pack host_Read.T2000009 v) (fun e s' => K e (trim host_Read.C (2000009 + 10000000) s')) = (fun (((v0, ()), (v1, v2, ())) : FrV host_Read.T2000009.fr × StV host_Read.T2000009.st) => host_Read.o2000009 v0 v1 v2 (fun e0 e1 e2 => K .normal (pack host_Read.X2000009_normal ((e0, ()), (e1, e2, ()))))) v :=
  fun ((v0, ()), (v1, v2, ())) K => by kernel_rfl
theorem host_Read.sum2000009_ok : SpotOk Try.prog host_Read.C host_Read.env host_Read.L (spotOf Try.f20 2000009) := spotOk_of (T := host_Read.T2000009) (q := 2000009) (f := host_Read.sum2000009) (by kernel_rfl) (by kernel_rfl) fun ((v0, ()), (v1, v2, ())) K r h => (host_Read.x2000009 _ K).trans ((host_Read.s2000009_eq v0 v1 v2 (fun e0 e1 e2 => K .normal (pack host_Read.X2000009_normal ((e0, ()), (e1, e2, ()))))).symm.trans h)
def host_Read.tree {R : Type} (a0 : List Int) (ret : (Int × Int × Int × Int × Int × Int × Unit) → Int → Option R) : Option R :=
  bif decide (↑(List.length a0) < (9 : Int)) then ret ((0 : Int), (0 : Int), (0 : Int), (0 : Int), (0 : Int), (0 : Int), ()) (20 : Int) else bif true && decide ((0 : Int) < ↑(List.length a0)) then bif true && decide ((1 : Int) < ↑(List.length a0)) then bif true && decide ((2 : Int) < ↑(List.length a0)) then bif true && decide ((3 : Int) < ↑(List.length a0)) then bif true && decide ((4 : Int) < ↑(List.length a0)) then bif true && decide ((9 : Int) ≤ ↑(List.length a0)) then host_Read.loop0 a0 (List.take (4 : Nat) (List.drop (5 : Nat) a0)) ↑(List.length (List.take (4 : Nat) (List.drop (5 : Nat) a0))) (0 : Int) ((0 : Int), (0 : Int), (0 : Int), (0 : Int), (0 : Int), (0 : Int), ()) (IntKind.wrap IntKind.i64 (List.getD a0 (0 : Nat) (0 : Int)), IntKind.wrap IntKind.i64 (List.getD a0 (1 : Nat) (0 : Int)), IntKind.wrap IntKind.i64 (List.getD a0 (2 : Nat) (0 : Int)), IntKind.wrap IntKind.i64 (List.getD a0 (3 : Nat) (0 : Int)), IntKind.wrap IntKind.i64 (List.getD a0 (4 : Nat) (0 : Int)), (0 : Int), ()) fun e0 e1 e2 => bif decide (↑(List.length e0) > (9 : Int)) || !host_Right e2 then ret ((0 : Int), (0 : Int), (0 : Int), (0 : Int), (0 : Int), (0 : Int), ()) (21 : Int) else ret e2 (0 : Int) else none else none else none else none else none else none
theorem host_Read.eq (a0 : List Int) : body Try.prog host_Read.C host_Read.env host_Read.L Try.f20 [⟨Ty.sl (Ty.int IntKind.u8), a0⟩] = host_Read.tree a0 (fun r0 r1 => some ([⟨HoT, r0⟩, ⟨Ty.int IntKind.i64, r1⟩] : List DVal)) := by kernel_rfl
def host_Read (b : List Int) : Hos × Int := bif decide ((b.length : Int) < 9) then (noHost, 20) else bif decide ((b.length : Int) > 9) || !host_Right (readHost b) then (noHost, 21) else (readHost b, 0)
theorem host_Read.nice {R : Type} (b : List Int) (ret : Hos → Int → Option R) : host_Read.tree b ret = ret (host_Read b).1 (host_Read b).2 := by
  unfold host_Read.tree host_Read
  by_cases h : (b.length : Int) < 9
  · rw [decide_eq_true h]; rfl
  · have g : ∀ k : Int, k < 9 → decide (k < (b.length : Int)) = true := fun k hk => decide_eq_true (by omega)
    have g9 : decide ((9 : Int) ≤ (b.length : Int)) = true := decide_eq_true (by omega)
    have h9 : 9 ≤ b.length := by omega
    rw [decide_eq_false h, g 0 (by decide), g 1 (by decide), g 2 (by decide), g 3 (by decide), g 4 (by decide), g9]
    simp only [Bool.and_self, Bool.cond_true, Bool.cond_false]
    have e : host_Read.loop0 b (List.take 4 (List.drop 5 b)) ↑(List.length (List.take 4 (List.drop 5 b))) 0 noHost (IntKind.wrap .i64 (b.getD 0 0), IntKind.wrap .i64 (b.getD 1 0), IntKind.wrap .i64 (b.getD 2 0), IntKind.wrap .i64 (b.getD 3 0), IntKind.wrap .i64 (b.getD 4 0), 0, ()) (fun e0 e1 e2 => bif decide (↑(List.length e0) > (9 : Int)) || !host_Right e2 then ret noHost 21 else ret e2 0) = bif decide ((b.length : Int) > 9) || !host_Right (readHost b) then ret noHost 21 else ret (readHost b) 0 := by
      obtain ⟨b0, b1, b2, b3, b4, b5, b6, b7, b8, t, rfl⟩ := nine h9
      clear g g9 h9 h
      show host_Read.loop0 _ _ _ _ _ _ _ = _
      kernel_rfl
    refine e.trans ?_
    cases decide ((b.length : Int) > 9) || !host_Right (readHost b) <;> rfl
def host_Read.ctr : Ctr := ctrOf [Ty.sl (Ty.int IntKind.u8)] fun x => .ret [⟨HoT, (host_Read (x.1)).1⟩, ⟨Ty.int IntKind.i64, (host_Read (x.1)).2⟩]
theorem host_Read.known : Known Try.prog 20 host_Read.ctr :=
  known_plain host_Read.envOk mixed Try.func20 (by kernel_rfl) (by kernel_rfl) (byId (by kernel_rfl : loopIds Try.f20 = [0]) (by intro q hq; simp only [List.mem_cons, List.not_mem_nil, or_false] at hq; subst hq; first | exact host_Read.sum0_ok)) (bySpot (ids := [2000009]) (by kernel_rfl) (by intro q hq; simp only [List.mem_cons, List.not_mem_nil, or_false] at hq; subst hq; first | exact host_Read.sum2000009_ok)) fun x rs h => by
    obtain ⟨a0, u⟩ := x
    cases u
    simp only [Cmd.val_ret] at h
    exact (host_Read.eq a0).trans ((host_Read.nice a0 (fun r0 r1 => some ([⟨HoT, r0⟩, ⟨Ty.int IntKind.i64, r1⟩] : List DVal))).trans h)

/-! ### ref5_Read -/
def ref5_Read.env : Env := envCons 17 ref5_Right.ctr <| envNil
theorem ref5_Read.envOk : EnvOk Try.prog ref5_Read.env := envOk_cons ref5_Right.known (envOk_nil _)
def ref5_Read.T0 : Tm := ⟨fill 0 58 [(0, Sl.data (Ty.sl (Ty.int IntKind.u8))), (2, Sl.ptr (2 : Nat) (nilOf Step)), (4, Sl.ptr (4 : Nat) (nilOf Step)), (5, Sl.data (Ty.int IntKind.i64))], [{ k := (2 : Nat), t := HoT, vir := false }, { k := (4 : Nat), t := HoT, vir := false }]⟩
def ref5_Read.X0_exit0 : Tm := ⟨fill 0 58 [(0, Sl.data (Ty.sl (Ty.int IntKind.u8))), (2, Sl.ptr (2 : Nat) (nilOf Step)), (4, Sl.ptr (4 : Nat) (nilOf Step))], [{ k := (2 : Nat), t := HoT, vir := false }, { k := (4 : Nat), t := HoT, vir := false }]⟩
def ref5_Read.round0 {R : Type} (v0 : List Int) (v1 : Int) (v2 : Int × Int × Int × Int × Int × Int × Unit) (v3 : Int × Int × Int × Int × Int × Int × Unit) (next : (List Int) → Int → (Int × Int × Int × Int × Int × Int × Unit) → (Int × Int × Int × Int × Int × Int × Unit) → Option R) (kexit0 : (List Int) → (Int × Int × Int × Int × Int × Int × Unit) → (Int × Int × Int × Int × Int × Int × Unit) → Option R) : Option R :=
  bif decide (v1 < (4 : Int)) then bif decide ((0 : Int) ≤ IntKind.wrap IntKind.i64 ((5 : Int) + v1)) && decide (IntKind.wrap IntKind.i64 ((5 : Int) + v1) < ↑(List.length v0)) then bif decide ((0 : Int) ≤ IntKind.wrap IntKind.i64 ((8 : Int) * v1)) then next v0 (IntKind.wrap IntKind.i64 (v1 + (1 : Int))) v2 (Prod.fst v3, Prod.fst (Prod.snd v3), Prod.fst (Prod.snd (Prod.snd v3)), Prod.fst (Prod.snd (Prod.snd (Prod.snd v3))), Prod.fst (Prod.snd (Prod.snd (Prod.snd (Prod.snd v3)))), bitop BinOp.or IntKind.u32 (Prod.fst (Prod.snd (Prod.snd (Prod.snd (Prod.snd (Prod.snd v3)))))) (shl IntKind.u32 (IntKind.wrap IntKind.u32 (List.getD v0 (Int.toNat (IntKind.wrap IntKind.i64 ((5 : Int) + v1))) (0 : Int))) (IntKind.wrap IntKind.i64 ((8 : Int) * v1))), ()) else none else none else kexit0 v0 v2 v3
def ref5_Read.R0 {R : Type} (kexit0 : (List Int) → (Int × Int × Int × Int × Int × Int × Unit) → (Int × Int × Int × Int × Int × Int × Unit) → Option R) : ((List Int) × Int × (Int × Int × Int × Int × Int × Int × Unit) × (Int × Int × Int × Int × Int × Int × Unit)) → (((List Int) × Int × (Int × Int × Int × Int × Int × Int × Unit) × (Int × Int × Int × Int × Int × Int × Unit)) → Option R) → Option R := fun (v0, v1, v2, v3) next => ref5_Read.round0 v0 v1 v2 v3 (fun w0 w1 w2 w3 => next (w0, w1, w2, w3)) kexit0
theorem ref5_Read.R0_eq {R : Type} (kexit0 : (List Int) → (Int × Int × Int × Int × Int × Int × Unit) → (Int × Int × Int × Int × Int × Int × Unit) → Option R) (v0 : List Int) (v1 : Int) (v2 : Int × Int × Int × Int × Int × Int × Unit) (v3 : Int × Int × Int × Int × Int × Int × Unit) (next : ((List Int) × Int × (Int × Int × Int × Int × Int × Int × Unit) × (Int × Int × Int × Int × Int × Int × Unit)) → Option R) : ref5_Read.R0 kexit0 (v0, v1, v2, v3) next = ref5_Read.round0 v0 v1 v2 v3 (fun w0 w1 w2 w3 => next (w0, w1, w2, w3)) kexit0 := rfl
def ref5_Read.loop0 {R : Type} (v0 : List Int) (v1 : Int) (v2 : Int × Int × Int × Int × Int × Int × Unit) (v3 : Int × Int × Int × Int × Int × Int × Unit) (kexit0 : (List Int) → (Int × Int × Int × Int × Int × Int × Unit) → (Int × Int × Int × Int × Int × Int × Unit) → Option R) : Option R := lp (ref5_Read.R0 kexit0) 5 (v0, v1, v2, v3)
theorem ref5_Read.loop0_ok {R : Type} (v0 : List Int) (v1 : Int) (v2 : Int × Int × Int × Int × Int × Int × Unit) (v3 : Int × Int × Int × Int × Int × Int × Unit) (kexit0 : (List Int) → (Int × Int × Int × Int × Int × Int × Unit) → (Int × Int × Int × Int × Int × Int × Unit) → Option R) (r : R) (h : ref5_Read.loop0 v0 v1 v2 v3 kexit0 = some r) : ∃ n, lp (ref5_Read.R0 kexit0) n (v0, v1, v2, v3) = some r := ⟨5, h⟩
def ref5_Read.T2000008 : Tm := ⟨fill 0 58 [(0, Sl.data (Ty.sl (Ty.int IntKind.u8))), (2, Sl.ptr (2 : Nat) (nilOf Step)), (4, Sl.ptr (4 : Nat) (nilOf Step))], [{ k := (2 : Nat), t := HoT, vir := false }, { k := (4 : Nat), t := HoT, vir := false }]⟩
def ref5_Read.X2000008_normal : Tm := ⟨fill 0 58 [(2, Sl.ptr (2 : Nat) (nilOf Step)), (4, Sl.ptr (4 : Nat) (nilOf Step)), (55, Sl.data Ty.bool)], [{ k := (2 : Nat), t := HoT, vir := false }, { k := (4 : Nat), t := HoT, vir := false }]⟩
def ref5_Read.o2000008 {R : Type} (v0 : List Int) (v1 : Int × Int × Int × Int × Int × Int × Unit) (v2 : Int × Int × Int × Int × Int × Int × Unit) (knormal : Bool → (Int × Int × Int × Int × Int × Int × Unit) → (Int × Int × Int × Int × Int × Int × Unit) → Option R) : Option R :=
  bif ↑(List.length v0) != (9 : Int) then knormal true v1 v2 else knormal (!ref5_Right v2) v1 v2
def ref5_Read.s2000008 {R : Type} (v0 : List Int) (v1 : Int × Int × Int × Int × Int × Int × Unit) (v2 : Int × Int × Int × Int × Int × Int × Unit) (knormal : Bool → (Int × Int × Int × Int × Int × Int × Unit) → (Int × Int × Int × Int × Int × Int × Unit) → Option R) : Option R :=
  knormal (↑(List.length v0) != (9 : Int) || !ref5_Right v2) v1 v2
theorem ref5_Read.s2000008_eq {R : Type} (v0 : List Int) (v1 : Int × Int × Int × Int × Int × Int × Unit) (v2 : Int × Int × Int × Int × Int × Int × Unit) (knormal : Bool → (Int × Int × Int × Int × Int × Int × Unit) → (Int × Int × Int × Int × Int × Int × Unit) → Option R) : ref5_Read.s2000008 v0 v1 v2 knormal = ref5_Read.o2000008 v0 v1 v2 knormal := by
  unfold ref5_Read.s2000008 ref5_Read.o2000008
  (cases hc : ↑(List.length v0) != (9 : Int) with | false => (first | rfl | simp_all) | true => (first | rfl | simp_all))
def ref5_Read.C : Cfg := { rows := [], keep := [(0, [0, 2, 4, 5], [2, 4]), (1000000, [0, 2, 3, 4], [2, 4]), (2000008, [0, 2, 4], [2, 4]), (12000008, [2, 4, 55], [2, 4])], adopt := [] }
def ref5_Read.sum2000008 : FrV ref5_Read.T2000008.fr × StV ref5_Read.T2000008.st → (Ex → S → Option (List DVal)) → Option (List DVal) := fun ((v0, ()), (v1, v2, ())) K => ref5_Read.s2000008 v0 v1 v2 (fun e0 e1 e2 => K .normal (pack ref5_Read.X2000008_normal ((e0, ()), (e1, e2, ()))))
def ref5_Read.sum0 : FrV ref5_Read.T0.fr × StV ref5_Read.T0.st → (Ex → S → Option (List DVal)) → Option (List DVal) := fun ((v0, v1, ()), (v2, v3, ())) K => ref5_Read.loop0 v0 v1 v2 v3 (fun e0 e1 e2 => K (.exit 0) (pack ref5_Read.X0_exit0 ((e0, ()), (e1, e2, ()))))
def ref5_Read.rnd0 : FrV ref5_Read.T0.fr × StV ref5_Read.T0.st → (FrV ref5_Read.T0.fr × StV ref5_Read.T0.st → Option (List DVal)) → (Ex → S → Option (List DVal)) → Option (List DVal) := fun ((v0, v1, ()), (v2, v3, ())) next K => ref5_Read.round0 v0 v1 v2 v3 (fun w0 w1 w2 w3 => next ((w0, w1, ()), (w2, w3, ()))) (fun e0 e1 e2 => K (.exit 0) (pack ref5_Read.X0_exit0 ((e0, ()), (e1, e2, ()))))
def ref5_Read.L : Nat → Option Sum := fun i => if i = 0 then some (sumOf ref5_Read.T0 ref5_Read.sum0) else if i = 2000008 then some (sumOf ref5_Read.T2000008 ref5_Read.sum2000008) else none
theorem ref5_Read.rnd0_eq : ∀ v (r : S → Option (List DVal)) (K : Ex → S → Option (List DVal)), exec Try.prog ref5_Read.C ref5_Read.env ref5_Read.L 0 (loopOf Try.f21 0) (pack ref5_Read.T0 v) (fun e s' => match e with | .normal => r (trim ref5_Read.C 0 s') | e => K e (trim ref5_Read.C (0 + 1000000) s')) = ref5_Read.rnd0 v (fun v' => r (pack ref5_Read.T0 v')) K :=
  fun ((v0, v1, ()), (v2, v3, ())) r K => by kernel_rfl
theorem ref5_Read.lp0 (K : Ex → S → Option (List DVal)) : ∀ (n : Nat) (v0 : List Int) (v1 : Int) (v2 : Int × Int × Int × Int × Int × Int × Unit) (v3 : Int × Int × Int × Int × Int × Int × Unit), lp (fun v next => ref5_Read.rnd0 v next K) n ((v0, v1, ()), (v2, v3, ())) = lp (ref5_Read.R0 (fun e0 e1 e2 => K (.exit 0) (pack ref5_Read.X0_exit0 ((e0, ()), (e1, e2, ()))))) n (v0, v1, v2, v3) := by
  intro n
  induction n with
  | zero => intros; rfl
  | succ n ih =>
    intro v0 v1 v2 v3
    show ref5_Read.round0 v0 v1 v2 v3 (fun w0 w1 w2 w3 => lp (fun v next => ref5_Read.rnd0 v next K) n ((w0, w1, ()), (w2, w3, ()))) (fun e0 e1 e2 => K (.exit 0) (pack ref5_Read.X0_exit0 ((e0, ()), (e1, e2, ())))) = ref5_Read.round0 v0 v1 v2 v3 (fun w0 w1 w2 w3 => lp (ref5_Read.R0 (fun e0 e1 e2 => K (.exit 0) (pack ref5_Read.X0_exit0 ((e0, ()), (e1, e2, ()))))) n (w0, w1, w2, w3)) (fun e0 e1 e2 => K (.exit 0) (pack ref5_Read.X0_exit0 ((e0, ()), (e1, e2, ()))))
    simp only [ih]
theorem ref5_Read.sum0_ok : SumOk Try.prog ref5_Read.C ref5_Read.env ref5_Read.L 0 (loopOf Try.f21 0) := sumOk_lp (T := ref5_Read.T0) (rnd := ref5_Read.rnd0) (f := ref5_Read.sum0) rfl ref5_Read.rnd0_eq fun ((v0, v1, ()), (v2, v3, ())) K r h => by
  obtain ⟨n, hn⟩ := ref5_Read.loop0_ok v0 v1 v2 v3 (fun e0 e1 e2 => K (.exit 0) (pack ref5_Read.X0_exit0 ((e0, ()), (e1, e2, ())))) r h
  exact ⟨n, by rw [ref5_Read.lp0]; exact hn⟩
theorem ref5_Read.x2000008 : ∀ v (K : Ex → S → Option (List DVal)), exec1 Try.prog ref5_Read.C ref5_Read.env ref5_Read.L (spotOf Try.f21 2000008).2.1 (spotOf Try.f21 2000008).2.2 (pack ref5_Read.T2000008 v) (fun e s' => K e (trim ref5_Read.C (2000008 + 10000000) s')) = (fun (((v0, ()), (v1, v2, ())) : FrV ref5_Read.T2000008.fr × StV ref5_Read.T2000008.st) => ref5_Read.o2000008 v0 v1 v2 (fun e0 e1 e2 => K .normal (pack ref5_Read.X2000008_normal ((e0, ()), (e1, e2, ()))))) v :=
  fun ((v0, ()), (v1, v2, ())) K => by kernel_rfl
theorem ref5_Read.sum2000008_ok : SpotOk Try.prog ref5_Read.C ref5_Read.env ref5_Read.L (spotOf Try.f21 2000008) := spotOk_of (T := ref5_Read.T2000008) (q := 2000008) (f := ref5_Read.sum2000008) (by kernel_rfl) (by kernel_rfl) fun ((v0, ()), (v1, v2, ())) K r h => (ref5_Read.x2000008 _ K).trans ((ref5_Read.s2000008_eq v0 v1 v2 (fun e0 e1 e2 => K .normal (pack ref5_Read.X2000008_normal ((e0, ()), (e1, e2, ()))))).symm.trans h)
def ref5_Read.tree {R : Type} (a0 : List Int) (ret : (Int × Int × Int × Int × Int × Int × Unit) → Int → Option R) : Option R :=
  bif decide (↑(List.length a0) < (9 : Int)) then ret ((0 : Int), (0 : Int), (0 : Int), (0 : Int), (0 : Int), (0 : Int), ()) (20 : Int) else bif true && decide ((0 : Int) < ↑(List.length a0)) then bif true && decide ((1 : Int) < ↑(List.length a0)) then bif true && decide ((2 : Int) < ↑(List.length a0)) then bif true && decide ((3 : Int) < ↑(List.length a0)) then bif true && decide ((4 : Int) < ↑(List.length a0)) then ref5_Read.loop0 a0 (0 : Int) ((0 : Int), (0 : Int), (0 : Int), (0 : Int), (0 : Int), (0 : Int), ()) (IntKind.wrap IntKind.i64 (List.getD a0 (0 : Nat) (0 : Int)), IntKind.wrap IntKind.i64 (List.getD a0 (1 : Nat) (0 : Int)), IntKind.wrap IntKind.i64 (List.getD a0 (2 : Nat) (0 : Int)), IntKind.wrap IntKind.i64 (List.getD a0 (3 : Nat) (0 : Int)), IntKind.wrap IntKind.i64 (List.getD a0 (4 : Nat) (0 : Int)), (0 : Int), ()) fun e0 e1 e2 => bif ↑(List.length e0) != (9 : Int) || !ref5_Right e2 then ret ((0 : Int), (0 : Int), (0 : Int), (0 : Int), (0 : Int), (0 : Int), ()) (21 : Int) else ret e2 (0 : Int) else none else none else none else none else none
theorem ref5_Read.eq (a0 : List Int) : body Try.prog ref5_Read.C ref5_Read.env ref5_Read.L Try.f21 [⟨Ty.sl (Ty.int IntKind.u8), a0⟩] = ref5_Read.tree a0 (fun r0 r1 => some ([⟨HoT, r0⟩, ⟨Ty.int IntKind.i64, r1⟩] : List DVal)) := by kernel_rfl
theorem rr_step0 {R : Type} (b : List Int) (z x : Hos) (next : List Int → Int → Hos → Hos → Option R) (kx : List Int → Hos → Hos → Option R) (h9 : 9 ≤ b.length) : ref5_Read.round0 b 0 z x next kx = next b 1 z (x.1, x.2.1, x.2.2.1, x.2.2.2.1, x.2.2.2.2.1, bitop .or .u32 x.2.2.2.2.2.1 (shl .u32 (IntKind.wrap .u32 (b.getD 5 0)) 0), ()) := by
  have e : ref5_Read.round0 b 0 z x next kx = bif decide ((5 : Int) < (b.length : Int)) then next b 1 z (x.1, x.2.1, x.2.2.1, x.2.2.2.1, x.2.2.2.2.1, bitop .or .u32 x.2.2.2.2.2.1 (shl .u32 (IntKind.wrap .u32 (b.getD 5 0)) 0), ()) else none := by kernel_rfl
  rw [e, decide_eq_true (by omega)]
  rfl
theorem rr_step1 {R : Type} (b : List Int) (z x : Hos) (next : List Int → Int → Hos → Hos → Option R) (kx : List Int → Hos → Hos → Option R) (h9 : 9 ≤ b.length) : ref5_Read.round0 b 1 z x next kx = next b 2 z (x.1, x.2.1, x.2.2.1, x.2.2.2.1, x.2.2.2.2.1, bitop .or .u32 x.2.2.2.2.2.1 (shl .u32 (IntKind.wrap .u32 (b.getD 6 0)) 8), ()) := by
  have e : ref5_Read.round0 b 1 z x next kx = bif decide ((6 : Int) < (b.length : Int)) then next b 2 z (x.1, x.2.1, x.2.2.1, x.2.2.2.1, x.2.2.2.2.1, bitop .or .u32 x.2.2.2.2.2.1 (shl .u32 (IntKind.wrap .u32 (b.getD 6 0)) 8), ()) else none := by kernel_rfl
  rw [e, decide_eq_true (by omega)]
  rfl
theorem rr_step2 {R : Type} (b : List Int) (z x : Hos) (next : List Int → Int → Hos → Hos → Option R) (kx : List Int → Hos → Hos → Option R) (h9 : 9 ≤ b.length) : ref5_Read.round0 b 2 z x next kx = next b 3 z (x.1, x.2.1, x.2.2.1, x.2.2.2.1, x.2.2.2.2.1, bitop .or .u32 x.2.2.2.2.2.1 (shl .u32 (IntKind.wrap .u32 (b.getD 7 0)) 16), ()) := by
  have e : ref5_Read.round0 b 2 z x next kx = bif decide ((7 : Int) < (b.length : Int)) then next b 3 z (x.1, x.2.1, x.2.2.1, x.2.2.2.1, x.2.2.2.2.1, bitop .or .u32 x.2.2.2.2.2.1 (shl .u32 (IntKind.wrap .u32 (b.getD 7 0)) 16), ()) else none := by kernel_rfl
  rw [e, decide_eq_true (by omega)]
  rfl
theorem rr_step3 {R : Type} (b : List Int) (z x : Hos) (next : List Int → Int → Hos → Hos → Option R) (kx : List Int → Hos → Hos → Option R) (h9 : 9 ≤ b.length) : ref5_Read.round0 b 3 z x next kx = next b 4 z (x.1, x.2.1, x.2.2.1, x.2.2.2.1, x.2.2.2.2.1, bitop .or .u32 x.2.2.2.2.2.1 (shl .u32 (IntKind.wrap .u32 (b.getD 8 0)) 24), ()) := by
  have e : ref5_Read.round0 b 3 z x next kx = bif decide ((8 : Int) < (b.length : Int)) then next b 4 z (x.1, x.2.1, x.2.2.1, x.2.2.2.1, x.2.2.2.2.1, bitop .or .u32 x.2.2.2.2.2.1 (shl .u32 (IntKind.wrap .u32 (b.getD 8 0)) 24), ()) else none := by kernel_rfl
  rw [e, decide_eq_true (by omega)]
  rfl
theorem rr_loop {R : Type} (b : List Int) (z : Hos) (kx : List Int → Hos → Hos → Option R) (h9 : 9 ≤ b.length) : ref5_Read.loop0 b 0 z (IntKind.wrap .i64 (b.getD 0 0), IntKind.wrap .i64 (b.getD 1 0), IntKind.wrap .i64 (b.getD 2 0), IntKind.wrap .i64 (b.getD 3 0), IntKind.wrap .i64 (b.getD 4 0), 0, ()) kx = kx b z (readHost b) := by
  unfold ref5_Read.loop0
  rw [lp_succ, ref5_Read.R0_eq, rr_step0 _ _ _ _ _ h9, lp_succ, ref5_Read.R0_eq, rr_step1 _ _ _ _ _ h9, lp_succ, ref5_Read.R0_eq, rr_step2 _ _ _ _ _ h9, lp_succ, ref5_Read.R0_eq, rr_step3 _ _ _ _ _ h9, lp_succ, ref5_Read.R0_eq]
  rfl
def ref5_Read (b : List Int) : Hos × Int := host_Read b
theorem ref5_Read.nice {R : Type} (b : List Int) (ret : Hos → Int → Option R) : ref5_Read.tree b ret = ret (ref5_Read b).1 (ref5_Read b).2 := by
  unfold ref5_Read.tree ref5_Read host_Read
  by_cases h : (b.length : Int) < 9
  · rw [decide_eq_true h]; rfl
  · have g : ∀ k : Int, k < 9 → decide (k < (b.length : Int)) = true := fun k hk => decide_eq_true (by omega)
    have h9 : 9 ≤ b.length := by omega
    rw [decide_eq_false h, g 0 (by decide), g 1 (by decide), g 2 (by decide), g 3 (by decide), g 4 (by decide)]
    simp only [Bool.and_self, Bool.cond_true, Bool.cond_false]
    rw [rr_loop b _ _ h9]
    have hn : ((b.length : Int) != 9) = decide ((b.length : Int) > 9) := by
      rw [Bool.eq_iff_iff]
      simp only [bne_iff_ne, ne_eq, decide_eq_true_eq]
      omega
    rw [hn, show ref5_Right (readHost b) = host_Right (readHost b) from rfl]
    cases decide ((b.length : Int) > 9) || !host_Right (readHost b) <;> rfl
def ref5_Read.ctr : Ctr := ctrOf [Ty.sl (Ty.int IntKind.u8)] fun x => .ret [⟨HoT, (ref5_Read (x.1)).1⟩, ⟨Ty.int IntKind.i64, (ref5_Read (x.1)).2⟩]
theorem ref5_Read.known : Known Try.prog 21 ref5_Read.ctr :=
  known_plain ref5_Read.envOk mixed Try.func21 (by kernel_rfl) (by kernel_rfl) (byId (by kernel_rfl : loopIds Try.f21 = [0]) (by intro q hq; simp only [List.mem_cons, List.not_mem_nil, or_false] at hq; subst hq; first | exact ref5_Read.sum0_ok)) (bySpot (ids := [2000008]) (by kernel_rfl) (by intro q hq; simp only [List.mem_cons, List.not_mem_nil, or_false] at hq; subst hq; first | exact ref5_Read.sum2000008_ok)) fun x rs h => by
    obtain ⟨a0, u⟩ := x
    cases u
    simp only [Cmd.val_ret] at h
    exact (ref5_Read.eq a0).trans ((ref5_Read.nice a0 (fun r0 r1 => some ([⟨HoT, r0⟩, ⟨Ty.int IntKind.i64, r1⟩] : List DVal))).trans h)

/-! ### law5_known -/
def law5_known.env : Env := envCons 18 host_Put.ctr <| envCons 20 host_Read.ctr <| envCons 16 host_Right.ctr <| envCons 22 host_Cost.ctr <| envCons 23 host_Loads.ctr <| envCons 24 host_Stores.ctr <| envCons 54 host_Name.ctr <| envNil
theorem law5_known.envOk : EnvOk Try.prog law5_known.env := envOk_cons host_Put.known (envOk_cons host_Read.known (envOk_cons host_Right.known (envOk_cons host_Cost.known (envOk_cons host_Loads.known (envOk_cons host_Stores.known (envOk_cons host_Name.known (envOk_nil _)))))))

def law5_known.C : Cfg := { rows := [], keep := [], adopt := [] }
def law5_known.tree {R : Type}  (ret : Bool → Option R) : Option R :=
  ret true
theorem law5_known.eq  : body Try.prog law5_known.C law5_known.env noL Try.f14 [] = law5_known.tree  (fun r0 => some ([⟨Ty.bool, r0⟩] : List DVal)) := by kernel_rfl
def law5_known  : Bool :=
  true
theorem law5_known.nice {R : Type}  (ret : Bool → Option R) : law5_known.tree  ret = ret (law5_known ) := by
  unfold law5_known.tree law5_known
  simp only [Bool.apply_cond ret]
def law5_known.ctr : Ctr := ctrOf [] fun x => .ret [⟨Ty.bool, law5_known ⟩]
theorem law5_known.known : Known Try.prog 14 law5_known.ctr :=
  known_plain law5_known.envOk mixed Try.func14 (by kernel_rfl) (by kernel_rfl) (noLoops (by kernel_rfl)) (noSpots (by kernel_rfl)) fun x rs h => by
    have u := x
    cases x
    simp only [Cmd.val_ret] at h
    exact (law5_known.eq ).trans ((law5_known.nice  (fun r0 => some ([⟨Ty.bool, r0⟩] : List DVal))).trans h)
end
end Go.D.Ytbcjiicaekfjlaa
