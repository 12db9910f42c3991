import Derived.Test.YtbcjiicaekfjlaaChecked
import Derived.Test.YtbcjiicaekfjlaaDX
import Derived.KernelRfl
import Derived.Test.YtbcjiicaekfjlaaLbits1
namespace Go.D.Ytbcjiicaekfjlaa
open Go.Proofs
set_option linter.unusedVariables false
set_option linter.unusedSimpArgs false
set_option maxRecDepth 100000
noncomputable section


/-! ### law1_WordShifts -/
def law1_WordShifts.env : Env := envCons 25 law1_known.ctr <| envCons 26 word_Shift.ctr <| envNil
theorem law1_WordShifts.envOk : EnvOk Try.prog law1_WordShifts.env := envOk_cons law1_known.known (envOk_cons word_Shift.known (envOk_nil _))
def law1_WordShifts.T2000008 : Tm := ⟨fill 0 67 [(16, Sl.data (Ty.int IntKind.u32)), (17, Sl.data Ty.bool), (18, Sl.data (Ty.int IntKind.u32)), (19, Sl.data Ty.bool)], []⟩
def law1_WordShifts.X2000008_normal : Tm := ⟨fill 0 67 [(10, Sl.data Ty.bool)], []⟩
def law1_WordShifts.o2000008 {R : Type} (v0 : Int) (v1 : Bool) (v2 : Int) (v3 : Bool) (knormal : Bool → Option R) : Option R :=
  bif v0 == v2 then knormal (eqD Ty.bool v1 v3) else knormal false
def law1_WordShifts.s2000008 {R : Type} (v0 : Int) (v1 : Bool) (v2 : Int) (v3 : Bool) (knormal : Bool → Option R) : Option R :=
  knormal (v0 == v2 && eqD Ty.bool v1 v3)
theorem law1_WordShifts.s2000008_eq {R : Type} (v0 : Int) (v1 : Bool) (v2 : Int) (v3 : Bool) (knormal : Bool → Option R) : law1_WordShifts.s2000008 v0 v1 v2 v3 knormal = law1_WordShifts.o2000008 v0 v1 v2 v3 knormal := by
  unfold law1_WordShifts.s2000008 law1_WordShifts.o2000008
  (cases hc : v0 == v2 with | false => (first | rfl | simp_all) | true => (first | rfl | simp_all))
def law1_WordShifts.C : Cfg := { rows := [], keep := [(2000008, [16, 17, 18, 19], []), (12000008, [10], [])], adopt := [] }
def law1_WordShifts.sum2000008 : FrV law1_WordShifts.T2000008.fr × StV law1_WordShifts.T2000008.st → (Ex → S → Option (List DVal)) → Option (List DVal) := fun ((v0, v1, v2, v3, ()), (())) K => law1_WordShifts.s2000008 v0 v1 v2 v3 (fun e0 => K .normal (pack law1_WordShifts.X2000008_normal ((e0, ()), (()))))
def law1_WordShifts.L : Nat → Option Sum := fun i => if i = 2000008 then some (sumOf law1_WordShifts.T2000008 law1_WordShifts.sum2000008) else none
theorem law1_WordShifts.x2000008 : ∀ v (K : Ex → S → Option (List DVal)), exec1 Try.prog law1_WordShifts.C law1_WordShifts.env law1_WordShifts.L (spotOf Try.f12 2000008).2.1 (spotOf Try.f12 2000008).2.2 (pack law1_WordShifts.T2000008 v) (fun e s' => K e (trim law1_WordShifts.C (2000008 + 10000000) s')) = (fun (((v0, v1, v2, v3, ()), (())) : FrV law1_WordShifts.T2000008.fr × StV law1_WordShifts.T2000008.st) => law1_WordShifts.o2000008 v0 v1 v2 v3 (fun e0 => K .normal (pack law1_WordShifts.X2000008_normal ((e0, ()), (()))))) v :=
  fun ((v0, v1, v2, v3, ()), (())) K => by kernel_rfl
theorem law1_WordShifts.sum2000008_ok : SpotOk Try.prog law1_WordShifts.C law1_WordShifts.env law1_WordShifts.L (spotOf Try.f12 2000008) := spotOk_of (T := law1_WordShifts.T2000008) (q := 2000008) (f := law1_WordShifts.sum2000008) (by kernel_rfl) (by kernel_rfl) fun ((v0, v1, v2, v3, ()), (())) K r h => (law1_WordShifts.x2000008 _ K).trans ((law1_WordShifts.s2000008_eq v0 v1 v2 v3 (fun e0 => K .normal (pack law1_WordShifts.X2000008_normal ((e0, ()), (()))))).symm.trans h)
def law1_WordShifts.tree {R : Type} (a0 : Int) (a1 : Int) (a2 : Int) (a3 : Bool) (a4 : Int) (ret : Bool → Option R) : Option R :=
  bif decide ((0 : Int) ≤ Int.tmod a4 (4 : Int)) && decide (Int.tmod a4 (4 : Int) < (4 : Int)) then bif word_Shift.pre a0 (List.getD [(1 : Int), (2 : Int), (3 : Int), (4 : Int)] (Int.toNat (Int.tmod a4 (4 : Int))) (0 : Int)) (IntKind.wrap IntKind.i64 (Int.tmod a1 (40 : Int))) a3 then bif word_Shift.pre (Prod.fst (word_Shift a0 (List.getD [(1 : Int), (2 : Int), (3 : Int), (4 : Int)] (Int.toNat (Int.tmod a4 (4 : Int))) (0 : Int)) (IntKind.wrap IntKind.i64 (Int.tmod a1 (40 : Int))) a3)) (List.getD [(1 : Int), (2 : Int), (3 : Int), (4 : Int)] (Int.toNat (Int.tmod a4 (4 : Int))) (0 : Int)) (IntKind.wrap IntKind.i64 (Int.tmod a2 (40 : Int))) (Prod.snd (word_Shift a0 (List.getD [(1 : Int), (2 : Int), (3 : Int), (4 : Int)] (Int.toNat (Int.tmod a4 (4 : Int))) (0 : Int)) (IntKind.wrap IntKind.i64 (Int.tmod a1 (40 : Int))) a3)) then bif word_Shift.pre a0 (List.getD [(1 : Int), (2 : Int), (3 : Int), (4 : Int)] (Int.toNat (Int.tmod a4 (4 : Int))) (0 : Int)) (IntKind.wrap IntKind.i64 (IntKind.wrap IntKind.i64 (Int.tmod a1 (40 : Int)) + IntKind.wrap IntKind.i64 (Int.tmod a2 (40 : Int)))) a3 then ret (Prod.fst (word_Shift (Prod.fst (word_Shift a0 (List.getD [(1 : Int), (2 : Int), (3 : Int), (4 : Int)] (Int.toNat (Int.tmod a4 (4 : Int))) (0 : Int)) (IntKind.wrap IntKind.i64 (Int.tmod a1 (40 : Int))) a3)) (List.getD [(1 : Int), (2 : Int), (3 : Int), (4 : Int)] (Int.toNat (Int.tmod a4 (4 : Int))) (0 : Int)) (IntKind.wrap IntKind.i64 (Int.tmod a2 (40 : Int))) (Prod.snd (word_Shift a0 (List.getD [(1 : Int), (2 : Int), (3 : Int), (4 : Int)] (Int.toNat (Int.tmod a4 (4 : Int))) (0 : Int)) (IntKind.wrap IntKind.i64 (Int.tmod a1 (40 : Int))) a3))) == Prod.fst (word_Shift a0 (List.getD [(1 : Int), (2 : Int), (3 : Int), (4 : Int)] (Int.toNat (Int.tmod a4 (4 : Int))) (0 : Int)) (IntKind.wrap IntKind.i64 (IntKind.wrap IntKind.i64 (Int.tmod a1 (40 : Int)) + IntKind.wrap IntKind.i64 (Int.tmod a2 (40 : Int)))) a3) && eqD Ty.bool (Prod.snd (word_Shift (Prod.fst (word_Shift a0 (List.getD [(1 : Int), (2 : Int), (3 : Int), (4 : Int)] (Int.toNat (Int.tmod a4 (4 : Int))) (0 : Int)) (IntKind.wrap IntKind.i64 (Int.tmod a1 (40 : Int))) a3)) (List.getD [(1 : Int), (2 : Int), (3 : Int), (4 : Int)] (Int.toNat (Int.tmod a4 (4 : Int))) (0 : Int)) (IntKind.wrap IntKind.i64 (Int.tmod a2 (40 : Int))) (Prod.snd (word_Shift a0 (List.getD [(1 : Int), (2 : Int), (3 : Int), (4 : Int)] (Int.toNat (Int.tmod a4 (4 : Int))) (0 : Int)) (IntKind.wrap IntKind.i64 (Int.tmod a1 (40 : Int))) a3)))) (Prod.snd (word_Shift a0 (List.getD [(1 : Int), (2 : Int), (3 : Int), (4 : Int)] (Int.toNat (Int.tmod a4 (4 : Int))) (0 : Int)) (IntKind.wrap IntKind.i64 (IntKind.wrap IntKind.i64 (Int.tmod a1 (40 : Int)) + IntKind.wrap IntKind.i64 (Int.tmod a2 (40 : Int)))) a3))) else none else none else none else none
theorem law1_WordShifts.eq (a0 : Int) (a1 : Int) (a2 : Int) (a3 : Bool) (a4 : Int) : body Try.prog law1_WordShifts.C law1_WordShifts.env law1_WordShifts.L Try.f12 [⟨Ty.int IntKind.u32, a0⟩, ⟨Ty.int IntKind.u8, a1⟩, ⟨Ty.int IntKind.u8, a2⟩, ⟨Ty.bool, a3⟩, ⟨Ty.int IntKind.u8, a4⟩] = law1_WordShifts.tree a0 a1 a2 a3 a4 (fun r0 => some ([⟨Ty.bool, r0⟩] : List DVal)) := by kernel_rfl
theorem shN_id {n : Int} (h0 : 0 ≤ n) (h1 : n ≤ 255) : shN n = n := by rw [shN_eq]; omega
theorem shift_add {v k a b : Int} (c : Bool) (hv : U32 v) (hk : k = 1 ∨ k = 2 ∨ k = 3 ∨ k = 4) (a0 : 0 ≤ a) (b0 : 0 ≤ b) (ab : a + b ≤ 255) :
    word_Shift (word_Shift v k a c).1 k b (word_Shift v k a c).2 = word_Shift v k (a + b) c := by
  obtain ⟨w, rfl⟩ := bv_of hv.1 hv.2
  rw [shift_sh32 w c hk, shift_sh32 _ _ hk, shift_sh32 w c hk, shN_id a0 (by omega), shN_id b0 (by omega), shN_id (by omega) ab]
  dsimp only
  rw [sh32_add, show (a + b).toNat = a.toNat + b.toNat by omega]
def law1_WordShifts.pre (v n m : Int) (c : Bool) (k : Int) : Bool := decide (0 ≤ v ∧ v < 4294967296) && decide (0 ≤ n ∧ n < 256) && decide (0 ≤ m ∧ m < 256) && decide (0 ≤ k ∧ k < 256)
def law1_WordShifts (v n m : Int) (c : Bool) (k : Int) : Bool := true
theorem kinds_at {j : Int} (h0 : 0 ≤ j) (h1 : j < 4) : List.getD [(1 : Int), 2, 3, 4] (Int.toNat j) 0 = 1 ∨ List.getD [(1 : Int), 2, 3, 4] (Int.toNat j) 0 = 2 ∨ List.getD [(1 : Int), 2, 3, 4] (Int.toNat j) 0 = 3 ∨ List.getD [(1 : Int), 2, 3, 4] (Int.toNat j) 0 = 4 := by
  rcases (by omega : j = 0 ∨ j = 1 ∨ j = 2 ∨ j = 3) with rfl | rfl | rfl | rfl <;> decide
theorem beq_bool (b : Bool) : eqD Ty.bool b b = true := by cases b <;> rfl
theorem law1_WordShifts.nice {R : Type} (v n m : Int) (c : Bool) (k : Int) (hp : law1_WordShifts.pre v n m c k = true) (ret : Bool → Option R) : law1_WordShifts.tree v n m c k ret = ret (law1_WordShifts v n m c k) := by
  unfold law1_WordShifts.pre at hp
  simp only [Bool.and_eq_true, decide_eq_true_eq] at hp
  obtain ⟨⟨⟨hv, hn⟩, hm⟩, hk⟩ := hp
  have e : ∀ x : Int, 0 ≤ x → IntKind.wrap .i64 (Int.tmod x 40) = x % 40 := by
    intro x hx
    rw [Int.tmod_eq_emod_of_nonneg hx, IntKind.wrap_i64]
    omega
  have ek : Int.tmod k 4 = k % 4 := Int.tmod_eq_emod_of_nonneg hk.1
  have es : IntKind.wrap .i64 (n % 40 + m % 40) = n % 40 + m % 40 := by rw [IntKind.wrap_i64]; omega
  unfold law1_WordShifts.tree
  rw [e n hn.1, e m hm.1, es, ek, decide_eq_true (by omega : 0 ≤ k % 4), decide_eq_true (by omega : k % 4 < 4), shift_add c hv (kinds_at (by omega) (by omega)) (by omega) (by omega) (by omega)]
  rw [beq_bool, beq_self_eq_true]
  rfl

def law1_WordShifts.ctr : Ctr := ctrOf [Ty.int IntKind.u32, Ty.int IntKind.u8, Ty.int IntKind.u8, Ty.bool, Ty.int IntKind.u8] fun x => .guard (law1_WordShifts.pre (x.1) (x.2.1) (x.2.2.1) (x.2.2.2.1) (x.2.2.2.2.1)) (.ret [⟨Ty.bool, law1_WordShifts (x.1) (x.2.1) (x.2.2.1) (x.2.2.2.1) (x.2.2.2.2.1)⟩])
theorem law1_WordShifts.known : Known Try.prog 12 law1_WordShifts.ctr :=
  known_plain law1_WordShifts.envOk mixed Try.func12 (by kernel_rfl) (by kernel_rfl) (noLoops (by kernel_rfl)) (bySpot (ids := [2000008]) (by kernel_rfl) (by intro q hq; simp only [List.mem_cons, List.not_mem_nil, or_false] at hq; subst hq; first | exact law1_WordShifts.sum2000008_ok)) fun x rs h => by
    obtain ⟨a0, a1, a2, a3, a4, u⟩ := x
    cases u
    simp only [Cmd.val_guard, Cmd.val_ret] at h
    split at h <;> try (cases h; done)
    rename_i hp
    exact (law1_WordShifts.eq a0 a1 a2 a3 a4).trans ((law1_WordShifts.nice a0 a1 a2 a3 a4 hp (fun r0 => some ([⟨Ty.bool, r0⟩] : List DVal))).trans h)
end
end Go.D.Ytbcjiicaekfjlaa
