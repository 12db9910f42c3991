import Derived.Test.YtmdnddoiopgboaaChecked
import Derived.Test.YtmdnddoiopgboaaDX
import Derived.KernelRfl
namespace Go.D.Ytmdnddoiopgboaa
open Go.Proofs
set_option linter.unusedVariables false
set_option linter.unusedSimpArgs false
set_option maxRecDepth 100000
noncomputable section
theorem mixed : Try.prog.follows .mixedOrders = true := by kernel_rfl
def noL : Nat → Option Sum := fun _ => none
abbrev RT : Ty := Ty.pair (Ty.int IntKind.u32) (Ty.pair (Ty.int IntKind.u32) (Ty.pair Ty.bool (Ty.pair Ty.bool (Ty.pair Ty.bool (Ty.pair Ty.bool (Ty.pair (Ty.sl (Ty.int IntKind.u8)) Ty.unit))))))
abbrev Reg := RT.den

/-! ### region_size -/
def region_size.env : Env := envNil
theorem region_size.envOk : EnvOk Try.prog region_size.env := envOk_nil _
def region_size.T2000001 : Tm := ⟨fill 0 10 [(0, Sl.data (Ty.int IntKind.u32))], []⟩
def region_size.X2000001_normal : Tm := ⟨fill 0 10 [(0, Sl.data (Ty.int IntKind.u32)), (8, Sl.data Ty.bool)], []⟩
def region_size.o2000001 {R : Type} (v0 : Int) (knormal : Int → Bool → Option R) : Option R :=
  bif v0 == (1 : Int) then knormal v0 true else knormal v0 (v0 == (2 : Int))
def region_size.s2000001 {R : Type} (v0 : Int) (knormal : Int → Bool → Option R) : Option R :=
  knormal v0 (v0 == (1 : Int) || v0 == (2 : Int))
theorem region_size.s2000001_eq {R : Type} (v0 : Int) (knormal : Int → Bool → Option R) : region_size.s2000001 v0 knormal = region_size.o2000001 v0 knormal := by
  unfold region_size.s2000001 region_size.o2000001
  (cases hc : v0 == (1 : Int) with | false => rfl | true => rfl)
def region_size.C : Cfg := { rows := [], keep := [(2000001, [0], []), (12000001, [0, 8], [])], adopt := [] }
def region_size.sum2000001 : FrV region_size.T2000001.fr × StV region_size.T2000001.st → (Ex → S → Option (List DVal)) → Option (List DVal) := fun ((v0, ()), (())) K => region_size.s2000001 v0 (fun e0 e1 => K .normal (pack region_size.X2000001_normal ((e0, e1, ()), (()))))
def region_size.L : Nat → Option Sum := fun i => if i = 2000001 then some (sumOf region_size.T2000001 region_size.sum2000001) else none
theorem region_size.x2000001 : ∀ v (K : Ex → S → Option (List DVal)), exec1 Try.prog region_size.C region_size.env region_size.L (spotOf Try.f38 2000001).2.1 (spotOf Try.f38 2000001).2.2 (pack region_size.T2000001 v) (fun e s' => K e (trim region_size.C (2000001 + 10000000) s')) = (fun (((v0, ()), (())) : FrV region_size.T2000001.fr × StV region_size.T2000001.st) => region_size.o2000001 v0 (fun e0 e1 => K .normal (pack region_size.X2000001_normal ((e0, e1, ()), (()))))) v :=
  fun ((v0, ()), (())) K => by kernel_rfl
theorem region_size.sum2000001_ok : SpotOk Try.prog region_size.C region_size.env region_size.L (spotOf Try.f38 2000001) := spotOk_of (T := region_size.T2000001) (q := 2000001) (f := region_size.sum2000001) (by kernel_rfl) (by kernel_rfl) fun ((v0, ()), (())) K r h => (region_size.x2000001 _ K).trans ((region_size.s2000001_eq v0 (fun e0 e1 => K .normal (pack region_size.X2000001_normal ((e0, e1, ()), (()))))).symm.trans h)
def region_size.tree {R : Type} (a0 : Int) (ret : Int → Option R) : Option R :=
  bif a0 == (1 : Int) || a0 == (2 : Int) then ret a0 else ret (4 : Int)
theorem region_size.eq (a0 : Int) : body Try.prog region_size.C region_size.env region_size.L Try.f38 [⟨Ty.int IntKind.u32, a0⟩] = region_size.tree a0 (fun r0 => some ([⟨Ty.int IntKind.u32, r0⟩] : List DVal)) := by kernel_rfl
def region_size (a0 : Int) : Int :=
  bif a0 == (1 : Int) || a0 == (2 : Int) then a0 else (4 : Int)
theorem region_size.nice {R : Type} (a0 : Int) (ret : Int → Option R) : region_size.tree a0 ret = ret (region_size a0) := by
  unfold region_size.tree region_size
  simp only [Bool.apply_cond ret]
def region_size.ctr : Ctr := ctrOf [Ty.int IntKind.u32] fun x => .ret [⟨Ty.int IntKind.u32, region_size (x.1)⟩]
theorem region_size.known : Known Try.prog 38 region_size.ctr :=
  known_plain region_size.envOk mixed Try.func38 (by kernel_rfl) (by kernel_rfl) (noLoops (by kernel_rfl)) (bySpot (ids := [2000001]) (by kernel_rfl) (by intro q hq; simp only [List.mem_cons, List.not_mem_nil, or_false] at hq; subst hq; first | exact region_size.sum2000001_ok)) fun x rs h => by
    obtain ⟨a0, u⟩ := x
    cases u
    simp only [Cmd.val_ret] at h
    exact (region_size.eq a0).trans ((region_size.nice a0 (fun r0 => some ([⟨Ty.int IntKind.u32, r0⟩] : List DVal))).trans h)

/-! ### region_wrong -/
def region_wrong.env : Env := envNil
theorem region_wrong.envOk : EnvOk Try.prog region_wrong.env := envOk_nil _
def region_wrong.T2000002 : Tm := ⟨fill 0 54 [(1, Sl.data (Ty.int IntKind.u64)), (2, Sl.ptr (2 : Nat) (nilOf Step)), (5, Sl.data (Ty.int IntKind.u64))], [{ k := (2 : Nat), t := RT, vir := false }]⟩
def region_wrong.X2000002_normal : Tm := ⟨fill 0 54 [(4, Sl.data Ty.bool)], []⟩
def region_wrong.o2000002 {R : Type} (v0 : Int) (v1 : Int) (v2 : Int × Int × Bool × Bool × Bool × Bool × List Int × Unit) (knormal : Bool → Option R) : Option R :=
  bif Int.tmod (Prod.fst v2) (4 : Int) != (0 : Int) then knormal true else bif Int.tmod (Prod.fst (Prod.snd v2)) (4 : Int) != (0 : Int) then knormal true else bif Prod.fst (Prod.snd v2) == (0 : Int) then knormal true else bif decide (IntKind.wrap IntKind.u64 (v1 + IntKind.wrap IntKind.u64 (Prod.fst (Prod.snd v2))) > (4294963200 : Int)) then knormal true else bif decide (v1 < v0) then knormal true else bif decide (↑(List.length (Prod.fst (Prod.snd (Prod.snd (Prod.snd (Prod.snd (Prod.snd (Prod.snd v2)))))))) > IntKind.wrap IntKind.i64 (Prod.fst (Prod.snd v2))) then knormal true else bif Prod.fst (Prod.snd (Prod.snd (Prod.snd (Prod.snd v2)))) then knormal (Prod.fst (Prod.snd (Prod.snd (Prod.snd (Prod.snd (Prod.snd v2)))))) else knormal false
def region_wrong.s2000002 {R : Type} (v0 : Int) (v1 : Int) (v2 : Int × Int × Bool × Bool × Bool × Bool × List Int × Unit) (knormal : Bool → Option R) : Option R :=
  knormal (Int.tmod (Prod.fst v2) (4 : Int) != (0 : Int) || (Int.tmod (Prod.fst (Prod.snd v2)) (4 : Int) != (0 : Int) || (Prod.fst (Prod.snd v2) == (0 : Int) || (decide (IntKind.wrap IntKind.u64 (v1 + IntKind.wrap IntKind.u64 (Prod.fst (Prod.snd v2))) > (4294963200 : Int)) || (decide (v1 < v0) || (decide (↑(List.length (Prod.fst (Prod.snd (Prod.snd (Prod.snd (Prod.snd (Prod.snd (Prod.snd v2)))))))) > IntKind.wrap IntKind.i64 (Prod.fst (Prod.snd v2))) || bif Prod.fst (Prod.snd (Prod.snd (Prod.snd (Prod.snd v2)))) then Prod.fst (Prod.snd (Prod.snd (Prod.snd (Prod.snd (Prod.snd v2))))) else false))))))
theorem region_wrong.s2000002_eq {R : Type} (v0 : Int) (v1 : Int) (v2 : Int × Int × Bool × Bool × Bool × Bool × List Int × Unit) (knormal : Bool → Option R) : region_wrong.s2000002 v0 v1 v2 knormal = region_wrong.o2000002 v0 v1 v2 knormal := by
  unfold region_wrong.s2000002 region_wrong.o2000002
  (cases hc : Int.tmod (Prod.fst v2) (4 : Int) != (0 : Int) with | false => (cases hc : Int.tmod (Prod.fst (Prod.snd v2)) (4 : Int) != (0 : Int) with | false => (cases hc : Prod.fst (Prod.snd v2) == (0 : Int) with | false => (cases hc : decide (IntKind.wrap IntKind.u64 (v1 + IntKind.wrap IntKind.u64 (Prod.fst (Prod.snd v2))) > (4294963200 : Int)) with | false => (cases hc : decide (v1 < v0) with | false => (cases hc : decide (↑(List.length (Prod.fst (Prod.snd (Prod.snd (Prod.snd (Prod.snd (Prod.snd (Prod.snd v2)))))))) > IntKind.wrap IntKind.i64 (Prod.fst (Prod.snd v2))) with | false => (cases hc : Prod.fst (Prod.snd (Prod.snd (Prod.snd (Prod.snd v2)))) with | false => rfl | true => rfl) | true => rfl) | true => rfl) | true => rfl) | true => rfl) | true => rfl) | true => rfl)
def region_wrong.C : Cfg := { rows := [], keep := [(2000002, [1, 2, 5], [2]), (12000002, [4], [])], adopt := [] }
def region_wrong.sum2000002 : FrV region_wrong.T2000002.fr × StV region_wrong.T2000002.st → (Ex → S → Option (List DVal)) → Option (List DVal) := fun ((v0, v1, ()), (v2, ())) K => region_wrong.s2000002 v0 v1 v2 (fun e0 => K .normal (pack region_wrong.X2000002_normal ((e0, ()), (()))))
def region_wrong.L : Nat → Option Sum := fun i => if i = 2000002 then some (sumOf region_wrong.T2000002 region_wrong.sum2000002) else none
theorem region_wrong.x2000002 : ∀ v (K : Ex → S → Option (List DVal)), exec1 Try.prog region_wrong.C region_wrong.env region_wrong.L (spotOf Try.f37 2000002).2.1 (spotOf Try.f37 2000002).2.2 (pack region_wrong.T2000002 v) (fun e s' => K e (trim region_wrong.C (2000002 + 10000000) s')) = (fun (((v0, v1, ()), (v2, ())) : FrV region_wrong.T2000002.fr × StV region_wrong.T2000002.st) => region_wrong.o2000002 v0 v1 v2 (fun e0 => K .normal (pack region_wrong.X2000002_normal ((e0, ()), (()))))) v :=
  fun ((v0, v1, ()), (v2, ())) K => by kernel_rfl
theorem region_wrong.sum2000002_ok : SpotOk Try.prog region_wrong.C region_wrong.env region_wrong.L (spotOf Try.f37 2000002) := spotOk_of (T := region_wrong.T2000002) (q := 2000002) (f := region_wrong.sum2000002) (by kernel_rfl) (by kernel_rfl) fun ((v0, v1, ()), (v2, ())) K r h => (region_wrong.x2000002 _ K).trans ((region_wrong.s2000002_eq v0 v1 v2 (fun e0 => K .normal (pack region_wrong.X2000002_normal ((e0, ()), (()))))).symm.trans h)
def region_wrong.tree {R : Type} (a0 : Int × Int × Bool × Bool × Bool × Bool × List Int × Unit) (a1 : Int) (ret : Bool → Option R) : Option R :=
  ret (Int.tmod (Prod.fst a0) (4 : Int) != (0 : Int) || (Int.tmod (Prod.fst (Prod.snd a0)) (4 : Int) != (0 : Int) || (Prod.fst (Prod.snd a0) == (0 : Int) || (decide (IntKind.wrap IntKind.u64 (IntKind.wrap IntKind.u64 (Prod.fst a0) + IntKind.wrap IntKind.u64 (Prod.fst (Prod.snd a0))) > (4294963200 : Int)) || (decide (IntKind.wrap IntKind.u64 (Prod.fst a0) < a1) || (decide (↑(List.length (Prod.fst (Prod.snd (Prod.snd (Prod.snd (Prod.snd (Prod.snd (Prod.snd a0)))))))) > IntKind.wrap IntKind.i64 (Prod.fst (Prod.snd a0))) || bif Prod.fst (Prod.snd (Prod.snd (Prod.snd (Prod.snd a0)))) then Prod.fst (Prod.snd (Prod.snd (Prod.snd (Prod.snd (Prod.snd a0))))) else false))))))
theorem region_wrong.eq (a0 : Int × Int × Bool × Bool × Bool × Bool × List Int × Unit) (a1 : Int) : body Try.prog region_wrong.C region_wrong.env region_wrong.L Try.f37 [⟨RT, a0⟩, ⟨Ty.int IntKind.u64, a1⟩] = region_wrong.tree a0 a1 (fun r0 => some ([⟨Ty.bool, r0⟩] : List DVal)) := by kernel_rfl
def region_wrong (a0 : Int × Int × Bool × Bool × Bool × Bool × List Int × Unit) (a1 : Int) : Bool :=
  Int.tmod (Prod.fst a0) (4 : Int) != (0 : Int) || (Int.tmod (Prod.fst (Prod.snd a0)) (4 : Int) != (0 : Int) || (Prod.fst (Prod.snd a0) == (0 : Int) || (decide (IntKind.wrap IntKind.u64 (IntKind.wrap IntKind.u64 (Prod.fst a0) + IntKind.wrap IntKind.u64 (Prod.fst (Prod.snd a0))) > (4294963200 : Int)) || (decide (IntKind.wrap IntKind.u64 (Prod.fst a0) < a1) || (decide (↑(List.length (Prod.fst (Prod.snd (Prod.snd (Prod.snd (Prod.snd (Prod.snd (Prod.snd a0)))))))) > IntKind.wrap IntKind.i64 (Prod.fst (Prod.snd a0))) || bif Prod.fst (Prod.snd (Prod.snd (Prod.snd (Prod.snd a0)))) then Prod.fst (Prod.snd (Prod.snd (Prod.snd (Prod.snd (Prod.snd a0))))) else false)))))
theorem region_wrong.nice {R : Type} (a0 : Int × Int × Bool × Bool × Bool × Bool × List Int × Unit) (a1 : Int) (ret : Bool → Option R) : region_wrong.tree a0 a1 ret = ret (region_wrong a0 a1) := by
  unfold region_wrong.tree region_wrong
  simp only [Bool.apply_cond ret]
def region_wrong.ctr : Ctr := ctrOf [RT, Ty.int IntKind.u64] fun x => .ret [⟨Ty.bool, region_wrong (x.1) (x.2.1)⟩]
theorem region_wrong.known : Known Try.prog 37 region_wrong.ctr :=
  known_plain region_wrong.envOk mixed Try.func37 (by kernel_rfl) (by kernel_rfl) (noLoops (by kernel_rfl)) (bySpot (ids := [2000002]) (by kernel_rfl) (by intro q hq; simp only [List.mem_cons, List.not_mem_nil, or_false] at hq; subst hq; first | exact region_wrong.sum2000002_ok)) fun x rs h => by
    obtain ⟨a0, a1, u⟩ := x
    cases u
    simp only [Cmd.val_ret] at h
    exact (region_wrong.eq a0 a1).trans ((region_wrong.nice a0 a1 (fun r0 => some ([⟨Ty.bool, r0⟩] : List DVal))).trans h)

/-! ### region_Check -/
def region_Check.env : Env := envCons 37 region_wrong.ctr <| envNil
theorem region_Check.envOk : EnvOk Try.prog region_Check.env := envOk_cons region_wrong.known (envOk_nil _)
def region_Check.T0 : Tm := ⟨fill 0 45 [(0, Sl.data (Ty.sl RT)), (3, Sl.data (Ty.int IntKind.u64)), (9, Sl.data (Ty.sl RT)), (10, Sl.data (Ty.int IntKind.i64)), (11, Sl.data (Ty.int IntKind.i64))], []⟩
def region_Check.X0_exit0 : Tm := ⟨fill 0 45 [(0, Sl.data (Ty.sl RT)), (3, Sl.data (Ty.int IntKind.u64))], []⟩
def region_Check.round0 {R : Type} (v0 : List (Int × Int × Bool × Bool × Bool × Bool × List Int × Unit)) (v1 : Int) (v2 : List (Int × Int × Bool × Bool × Bool × Bool × List Int × Unit)) (v3 : Int) (v4 : Int) (next : (List (Int × Int × Bool × Bool × Bool × Bool × List Int × Unit)) → Int → (List (Int × Int × Bool × Bool × Bool × Bool × List Int × Unit)) → Int → Int → Option R) (kexit0 : (List (Int × Int × Bool × Bool × Bool × Bool × List Int × Unit)) → Int → Option R) : Option R :=
  bif decide (v4 < v3) then bif decide ((0 : Int) ≤ v4) && decide (v4 < ↑(List.length v2)) then next v0 (IntKind.wrap IntKind.u64 (v1 + IntKind.wrap IntKind.u64 (Prod.fst (Prod.snd (List.getD v2 (Int.toNat v4) (Ty.dflt RT)))))) v2 v3 (IntKind.wrap IntKind.i64 (v4 + (1 : Int))) else none else kexit0 v0 v1
def region_Check.R0 {R : Type} (kexit0 : (List (Int × Int × Bool × Bool × Bool × Bool × List Int × Unit)) → Int → Option R) : ((List (Int × Int × Bool × Bool × Bool × Bool × List Int × Unit)) × Int × (List (Int × Int × Bool × Bool × Bool × Bool × List Int × Unit)) × Int × Int) → (((List (Int × Int × Bool × Bool × Bool × Bool × List Int × Unit)) × Int × (List (Int × Int × Bool × Bool × Bool × Bool × List Int × Unit)) × Int × Int) → Option R) → Option R := fun (v0, v1, v2, v3, v4) next => region_Check.round0 v0 v1 v2 v3 v4 (fun w0 w1 w2 w3 w4 => next (w0, w1, w2, w3, w4)) kexit0
theorem region_Check.R0_eq {R : Type} (kexit0 : (List (Int × Int × Bool × Bool × Bool × Bool × List Int × Unit)) → Int → Option R) (v0 : List (Int × Int × Bool × Bool × Bool × Bool × List Int × Unit)) (v1 : Int) (v2 : List (Int × Int × Bool × Bool × Bool × Bool × List Int × Unit)) (v3 : Int) (v4 : Int) (next : ((List (Int × Int × Bool × Bool × Bool × Bool × List Int × Unit)) × Int × (List (Int × Int × Bool × Bool × Bool × Bool × List Int × Unit)) × Int × Int) → Option R) : region_Check.R0 kexit0 (v0, v1, v2, v3, v4) next = region_Check.round0 v0 v1 v2 v3 v4 (fun w0 w1 w2 w3 w4 => next (w0, w1, w2, w3, w4)) kexit0 := rfl
def region_Check.loop0 {R : Type} (l : List Reg) (s : Int) (m : List Reg) (n i : Int) (k : List Reg → Int → Option R) : Option R :=
  if n = m.length ∧ n < 4611686018427387904 ∧ 0 ≤ i ∧ i ≤ n then k l ((m.drop i.toNat).foldl (fun s r => IntKind.wrap .u64 (s + IntKind.wrap .u64 r.2.1)) s) else none
theorem region_Check.loop0_ok {R : Type} (l : List Reg) (s : Int) (m : List Reg) (n i : Int) (k : List Reg → Int → Option R) (r : R) (h : region_Check.loop0 l s m n i k = some r) : ∃ f, lp (region_Check.R0 k) f (l, s, m, n, i) = some r := by
  unfold region_Check.loop0 at h
  split at h <;> try (cases h; done)
  rename_i hc
  obtain ⟨h1, h2, h3, h4⟩ := hc
  generalize hd : (n - i).toNat = d
  induction d generalizing s i with
  | zero =>
    have hi : i = n := by omega
    refine ⟨1, ?_⟩
    rw [lp_succ, region_Check.R0_eq, region_Check.round0]
    have : decide (i < n) = false := by simp; omega
    rw [this]
    rw [List.drop_of_length_le (by omega)] at h
    exact h
  | succ d ih =>
    have hlt : i.toNat < m.length := by omega
    rw [List.drop_eq_getElem_cons hlt, List.foldl_cons] at h
    obtain ⟨f, hf⟩ := ih (IntKind.wrap .u64 (s + IntKind.wrap .u64 m[i.toNat].2.1)) (i + 1) (by
      have : (i + 1).toNat = i.toNat + 1 := by omega
      rw [this]; exact h) (by omega) (by omega) (by omega)
    refine ⟨f + 1, ?_⟩
    rw [lp_succ, region_Check.R0_eq, region_Check.round0]
    have e1 : decide (i < n) = true := by simp; omega
    have e2 : (decide (0 ≤ i) && decide (i < (m.length : Int))) = true := by simp; omega
    have e3 : IntKind.wrap .i64 (i + 1) = i + 1 := by rw [IntKind.wrap_i64]; omega
    have e4 : List.getD m i.toNat (Ty.dflt RT) = m[i.toNat] := by rw [List.getD_eq_getElem?_getD, List.getElem?_eq_getElem hlt]; rfl
    rw [e1, e2, e3, e4]
    exact hf
def region_Check.T2 : Tm := ⟨fill 0 45 [(6, Sl.data (Ty.int IntKind.u64)), (28, Sl.data (Ty.sl RT)), (29, Sl.data (Ty.int IntKind.i64)), (30, Sl.data (Ty.int IntKind.i64))], []⟩
def region_Check.X2_ret : Tm := ⟨fill 0 45 [(2, Sl.data (Ty.int IntKind.i64))], []⟩
def region_Check.X2_exit2 : Tm := ⟨fill 0 45 [], []⟩
def region_Check.round2 {R : Type} (v0 : Int) (v1 : List (Int × Int × Bool × Bool × Bool × Bool × List Int × Unit)) (v2 : Int) (v3 : Int) (next : Int → (List (Int × Int × Bool × Bool × Bool × Bool × List Int × Unit)) → Int → Int → Option R) (kret : Int → Option R) (kexit2 : Option R) : Option R :=
  bif decide (v3 < v2) then bif decide ((0 : Int) ≤ v3) && decide (v3 < ↑(List.length v1)) then bif region_wrong (List.getD v1 (Int.toNat v3) (Ty.dflt RT)) v0 then kret (23 : Int) else next (IntKind.wrap IntKind.u64 (IntKind.wrap IntKind.u64 (Prod.fst (List.getD v1 (Int.toNat v3) (Ty.dflt RT))) + IntKind.wrap IntKind.u64 (Prod.fst (Prod.snd (List.getD v1 (Int.toNat v3) (Ty.dflt RT)))))) v1 v2 (IntKind.wrap IntKind.i64 (v3 + (1 : Int))) else none else kexit2
def region_Check.R2 {R : Type} (kret : Int → Option R) (kexit2 : Option R) : (Int × (List (Int × Int × Bool × Bool × Bool × Bool × List Int × Unit)) × Int × Int) → ((Int × (List (Int × Int × Bool × Bool × Bool × Bool × List Int × Unit)) × Int × Int) → Option R) → Option R := fun (v0, v1, v2, v3) next => region_Check.round2 v0 v1 v2 v3 (fun w0 w1 w2 w3 => next (w0, w1, w2, w3)) kret kexit2
theorem region_Check.R2_eq {R : Type} (kret : Int → Option R) (kexit2 : Option R) (v0 : Int) (v1 : List (Int × Int × Bool × Bool × Bool × Bool × List Int × Unit)) (v2 : Int) (v3 : Int) (next : (Int × (List (Int × Int × Bool × Bool × Bool × Bool × List Int × Unit)) × Int × Int) → Option R) : region_Check.R2 kret kexit2 (v0, v1, v2, v3) next = region_Check.round2 v0 v1 v2 v3 (fun w0 w1 w2 w3 => next (w0, w1, w2, w3)) kret kexit2 := rfl
def region_wrongs : List Reg → Int → Bool
  | [], _ => false
  | r :: l, b => region_wrong r b || region_wrongs l (IntKind.wrap .u64 (IntKind.wrap .u64 r.1 + IntKind.wrap .u64 r.2.1))
def region_Check.loop2 {R : Type} (b : Int) (m : List Reg) (n i : Int) (kr : Int → Option R) (k : Option R) : Option R :=
  if n = m.length ∧ n < 4611686018427387904 ∧ 0 ≤ i ∧ i ≤ n then (bif region_wrongs (m.drop i.toNat) b then kr 23 else k) else none
theorem region_Check.loop2_ok {R : Type} (b : Int) (m : List Reg) (n i : Int) (kr : Int → Option R) (k : Option R) (r : R) (h : region_Check.loop2 b m n i kr k = some r) : ∃ f, lp (region_Check.R2 kr k) f (b, m, n, i) = some r := by
  unfold region_Check.loop2 at h
  split at h <;> try (cases h; done)
  rename_i hc
  obtain ⟨h1, h2, h3, h4⟩ := hc
  generalize hd : (n - i).toNat = d
  induction d generalizing b i with
  | zero =>
    have hi : i = n := by omega
    refine ⟨1, ?_⟩
    rw [lp_succ, region_Check.R2_eq, region_Check.round2]
    have : decide (i < n) = false := by simp; omega
    rw [this]
    rw [List.drop_of_length_le (by omega)] at h
    exact h
  | succ d ih =>
    have hlt : i.toNat < m.length := by omega
    rw [List.drop_eq_getElem_cons hlt, region_wrongs] at h
    have e1 : decide (i < n) = true := by simp; omega
    have e2 : (decide (0 ≤ i) && decide (i < (m.length : Int))) = true := by simp; omega
    have e3 : IntKind.wrap .i64 (i + 1) = i + 1 := by rw [IntKind.wrap_i64]; omega
    have e4 : List.getD m i.toNat (Ty.dflt RT) = m[i.toNat] := by rw [List.getD_eq_getElem?_getD, List.getElem?_eq_getElem hlt]; rfl
    cases hw : region_wrong m[i.toNat] b with
    | true =>
      rw [hw] at h
      refine ⟨1, ?_⟩
      rw [lp_succ, region_Check.R2_eq, region_Check.round2]
      rw [e1, e2, e4, hw]
      exact h
    | false =>
      rw [hw] at h
      obtain ⟨f, hf⟩ := ih (IntKind.wrap .u64 (IntKind.wrap .u64 m[i.toNat].1 + IntKind.wrap .u64 m[i.toNat].2.1)) (i + 1) (by
        have : (i + 1).toNat = i.toNat + 1 := by omega
        rw [this]; exact h) (by omega) (by omega) (by omega)
      refine ⟨f + 1, ?_⟩
      rw [lp_succ, region_Check.R2_eq, region_Check.round2]
      rw [e1, e2, e3, e4, hw]
      exact hf
def region_Check.C : Cfg := { rows := [], keep := [(0, [0, 3, 9, 10, 11], []), (1000000, [0, 2, 3], []), (2, [6, 28, 29, 30], []), (1000002, [2], [])], adopt := [] }
def region_Check.sum0 : FrV region_Check.T0.fr × StV region_Check.T0.st → (Ex → S → Option (List DVal)) → Option (List DVal) := fun ((v0, v1, v2, v3, v4, ()), (())) K => region_Check.loop0 v0 v1 v2 v3 v4 (fun e0 e1 => K (.exit 0) (pack region_Check.X0_exit0 ((e0, e1, ()), (()))))
def region_Check.rnd0 : FrV region_Check.T0.fr × StV region_Check.T0.st → (FrV region_Check.T0.fr × StV region_Check.T0.st → Option (List DVal)) → (Ex → S → Option (List DVal)) → Option (List DVal) := fun ((v0, v1, v2, v3, v4, ()), (())) next K => region_Check.round0 v0 v1 v2 v3 v4 (fun w0 w1 w2 w3 w4 => next ((w0, w1, w2, w3, w4, ()), (()))) (fun e0 e1 => K (.exit 0) (pack region_Check.X0_exit0 ((e0, e1, ()), (()))))
def region_Check.sum2 : FrV region_Check.T2.fr × StV region_Check.T2.st → (Ex → S → Option (List DVal)) → Option (List DVal) := fun ((v0, v1, v2, v3, ()), (())) K => region_Check.loop2 v0 v1 v2 v3 (fun e0 => K .ret (pack region_Check.X2_ret ((e0, ()), (())))) (K (.exit 2) (pack region_Check.X2_exit2 ((), ())))
def region_Check.rnd2 : FrV region_Check.T2.fr × StV region_Check.T2.st → (FrV region_Check.T2.fr × StV region_Check.T2.st → Option (List DVal)) → (Ex → S → Option (List DVal)) → Option (List DVal) := fun ((v0, v1, v2, v3, ()), (())) next K => region_Check.round2 v0 v1 v2 v3 (fun w0 w1 w2 w3 => next ((w0, w1, w2, w3, ()), (()))) (fun e0 => K .ret (pack region_Check.X2_ret ((e0, ()), (())))) (K (.exit 2) (pack region_Check.X2_exit2 ((), ())))
def region_Check.L : Nat → Option Sum := fun i => if i = 0 then some (sumOf region_Check.T0 region_Check.sum0) else if i = 2 then some (sumOf region_Check.T2 region_Check.sum2) else none
theorem region_Check.rnd0_eq : ∀ v (r : S → Option (List DVal)) (K : Ex → S → Option (List DVal)), exec Try.prog region_Check.C region_Check.env region_Check.L 0 (loopOf Try.f25 0) (pack region_Check.T0 v) (fun e s' => match e with | .normal => r (trim region_Check.C 0 s') | e => K e (trim region_Check.C (0 + 1000000) s')) = region_Check.rnd0 v (fun v' => r (pack region_Check.T0 v')) K :=
  fun ((v0, v1, v2, v3, v4, ()), (())) r K => by kernel_rfl
theorem region_Check.lp0 (K : Ex → S → Option (List DVal)) : ∀ (n : Nat) (v0 : List (Int × Int × Bool × Bool × Bool × Bool × List Int × Unit)) (v1 : Int) (v2 : List (Int × Int × Bool × Bool × Bool × Bool × List Int × Unit)) (v3 : Int) (v4 : Int), lp (fun v next => region_Check.rnd0 v next K) n ((v0, v1, v2, v3, v4, ()), (())) = lp (region_Check.R0 (fun e0 e1 => K (.exit 0) (pack region_Check.X0_exit0 ((e0, e1, ()), (()))))) n (v0, v1, v2, v3, v4) := by
  intro n
  induction n with
  | zero => intros; rfl
  | succ n ih =>
    intro v0 v1 v2 v3 v4
    show region_Check.round0 v0 v1 v2 v3 v4 (fun w0 w1 w2 w3 w4 => lp (fun v next => region_Check.rnd0 v next K) n ((w0, w1, w2, w3, w4, ()), (()))) (fun e0 e1 => K (.exit 0) (pack region_Check.X0_exit0 ((e0, e1, ()), (())))) = region_Check.round0 v0 v1 v2 v3 v4 (fun w0 w1 w2 w3 w4 => lp (region_Check.R0 (fun e0 e1 => K (.exit 0) (pack region_Check.X0_exit0 ((e0, e1, ()), (()))))) n (w0, w1, w2, w3, w4)) (fun e0 e1 => K (.exit 0) (pack region_Check.X0_exit0 ((e0, e1, ()), (()))))
    simp only [ih]
theorem region_Check.sum0_ok : SumOk Try.prog region_Check.C region_Check.env region_Check.L 0 (loopOf Try.f25 0) := sumOk_lp (T := region_Check.T0) (rnd := region_Check.rnd0) (f := region_Check.sum0) rfl region_Check.rnd0_eq fun ((v0, v1, v2, v3, v4, ()), (())) K r h => by
  obtain ⟨n, hn⟩ := region_Check.loop0_ok v0 v1 v2 v3 v4 (fun e0 e1 => K (.exit 0) (pack region_Check.X0_exit0 ((e0, e1, ()), (())))) r h
  exact ⟨n, by rw [region_Check.lp0]; exact hn⟩
theorem region_Check.rnd2_eq : ∀ v (r : S → Option (List DVal)) (K : Ex → S → Option (List DVal)), exec Try.prog region_Check.C region_Check.env region_Check.L 2 (loopOf Try.f25 2) (pack region_Check.T2 v) (fun e s' => match e with | .normal => r (trim region_Check.C 2 s') | e => K e (trim region_Check.C (2 + 1000000) s')) = region_Check.rnd2 v (fun v' => r (pack region_Check.T2 v')) K :=
  fun ((v0, v1, v2, v3, ()), (())) r K => by kernel_rfl
theorem region_Check.lp2 (K : Ex → S → Option (List DVal)) : ∀ (n : Nat) (v0 : Int) (v1 : List (Int × Int × Bool × Bool × Bool × Bool × List Int × Unit)) (v2 : Int) (v3 : Int), lp (fun v next => region_Check.rnd2 v next K) n ((v0, v1, v2, v3, ()), (())) = lp (region_Check.R2 (fun e0 => K .ret (pack region_Check.X2_ret ((e0, ()), (())))) (K (.exit 2) (pack region_Check.X2_exit2 ((), ())))) n (v0, v1, v2, v3) := by
  intro n
  induction n with
  | zero => intros; rfl
  | succ n ih =>
    intro v0 v1 v2 v3
    show region_Check.round2 v0 v1 v2 v3 (fun w0 w1 w2 w3 => lp (fun v next => region_Check.rnd2 v next K) n ((w0, w1, w2, w3, ()), (()))) (fun e0 => K .ret (pack region_Check.X2_ret ((e0, ()), (())))) (K (.exit 2) (pack region_Check.X2_exit2 ((), ()))) = region_Check.round2 v0 v1 v2 v3 (fun w0 w1 w2 w3 => lp (region_Check.R2 (fun e0 => K .ret (pack region_Check.X2_ret ((e0, ()), (())))) (K (.exit 2) (pack region_Check.X2_exit2 ((), ())))) n (w0, w1, w2, w3)) (fun e0 => K .ret (pack region_Check.X2_ret ((e0, ()), (())))) (K (.exit 2) (pack region_Check.X2_exit2 ((), ())))
    simp only [ih]
theorem region_Check.sum2_ok : SumOk Try.prog region_Check.C region_Check.env region_Check.L 2 (loopOf Try.f25 2) := sumOk_lp (T := region_Check.T2) (rnd := region_Check.rnd2) (f := region_Check.sum2) rfl region_Check.rnd2_eq fun ((v0, v1, v2, v3, ()), (())) K r h => by
  obtain ⟨n, hn⟩ := region_Check.loop2_ok v0 v1 v2 v3 (fun e0 => K .ret (pack region_Check.X2_ret ((e0, ()), (())))) (K (.exit 2) (pack region_Check.X2_exit2 ((), ()))) r h
  exact ⟨n, by rw [region_Check.lp2]; exact hn⟩
def region_Check.tree {R : Type} (a0 : List (Int × Int × Bool × Bool × Bool × Bool × List Int × Unit)) (ret : Int → Option R) : Option R :=
  region_Check.loop0 a0 (0 : Int) a0 ↑(List.length a0) (0 : Int) fun e0 e1 => bif decide (↑(List.length e0) > (8 : Int)) then ret (22 : Int) else bif decide (e1 > (65536 : Int)) then ret (22 : Int) else region_Check.loop2 (0 : Int) e0 ↑(List.length e0) (0 : Int) (fun e0 => ret e0) (ret (0 : Int))
theorem region_Check.eq (a0 : List (Int × Int × Bool × Bool × Bool × Bool × List Int × Unit)) : body Try.prog region_Check.C region_Check.env region_Check.L Try.f25 [⟨Ty.sl RT, a0⟩] = region_Check.tree a0 (fun r0 => some ([⟨Ty.int IntKind.i64, r0⟩] : List DVal)) := by kernel_rfl
def region_Check.pre (l : List Reg) : Bool := Nat.ble l.length 4611686018427387903
theorem region_pre {l : List Reg} (h : region_Check.pre l = true) : (l.length : Int) < 4611686018427387904 := by
  have := Nat.le_of_ble_eq_true h
  omega
def region_sum (l : List Reg) (s : Int) : Int := l.foldl (fun s r => IntKind.wrap .u64 (s + IntKind.wrap .u64 r.2.1)) s
def region_Check (l : List Reg) : Int := bif decide ((l.length : Int) > 8) then 22 else bif decide (region_sum l 0 > 65536) then 22 else bif region_wrongs l 0 then 23 else 0
theorem region_Check.nice {R : Type} (l : List Reg) (hp : region_Check.pre l = true) (ret : Int → Option R) : region_Check.tree l ret = ret (region_Check l) := by
  have hp' : (l.length : Int) < 4611686018427387904 := region_pre hp
  unfold region_Check.tree region_Check region_Check.loop0 region_Check.loop2
  rw [if_pos ⟨rfl, hp', Int.le_refl _, by omega⟩]
  dsimp only
  rw [if_pos ⟨rfl, hp', Int.le_refl _, by omega⟩]
  simp only [Bool.apply_cond ret]
  rfl
def region_Check.ctr : Ctr := ctrOf [Ty.sl RT] fun x => .guard (region_Check.pre (x.1)) (.ret [⟨Ty.int IntKind.i64, region_Check (x.1)⟩])
theorem region_Check.known : Known Try.prog 25 region_Check.ctr :=
  known_plain region_Check.envOk mixed Try.func25 (by kernel_rfl) (by kernel_rfl) (byId (by kernel_rfl : loopIds Try.f25 = [0, 2]) (by intro q hq; simp only [List.mem_cons, List.not_mem_nil, or_false] at hq; rcases hq with rfl | rfl<;> first | exact region_Check.sum0_ok | exact region_Check.sum2_ok)) (noSpots (by kernel_rfl)) fun x rs h => by
    obtain ⟨a0, u⟩ := x
    cases u
    simp only [Cmd.val_guard, Cmd.val_ret] at h
    split at h <;> try (cases h; done)
    rename_i hp
    exact (region_Check.eq a0).trans ((region_Check.nice a0 hp (fun r0 => some ([⟨Ty.int IntKind.i64, r0⟩] : List DVal))).trans h)

/-! ### region_Find -/
def region_Find.env : Env := envCons 25 region_Check.ctr <| envCons 38 region_size.ctr <| envNil
theorem region_Find.envOk : EnvOk Try.prog region_Find.env := envOk_cons region_Check.known (envOk_cons region_size.known (envOk_nil _))
def region_Find.T0 : Tm := ⟨fill 0 44 [(1, Sl.data (Ty.int IntKind.u32)), (8, Sl.data (Ty.int IntKind.u64)), (20, Sl.data (Ty.sl RT)), (21, Sl.data (Ty.int IntKind.i64)), (22, Sl.data (Ty.int IntKind.i64))], []⟩
def region_Find.X0_ret : Tm := ⟨fill 0 44 [(6, Sl.data (Ty.int IntKind.i64)), (7, Sl.data Ty.bool)], []⟩
def region_Find.X0_exit0 : Tm := ⟨fill 0 44 [], []⟩
def region_Find.round0 {R : Type} (v0 : Int) (v1 : Int) (v2 : List (Int × Int × Bool × Bool × Bool × Bool × List Int × Unit)) (v3 : Int) (v4 : Int) (next : Int → Int → (List (Int × Int × Bool × Bool × Bool × Bool × List Int × Unit)) → Int → Int → Option R) (kret : Int → Bool → Option R) (kexit0 : Option R) : Option R :=
  bif decide (v4 < v3) then bif decide ((0 : Int) ≤ v4) && decide (v4 < ↑(List.length v2)) then bif decide (v0 ≥ Prod.fst (List.getD v2 (Int.toNat v4) (Ty.dflt RT))) then bif decide (v1 ≤ IntKind.wrap IntKind.u64 (IntKind.wrap IntKind.u64 (Prod.fst (List.getD v2 (Int.toNat v4) (Ty.dflt RT))) + IntKind.wrap IntKind.u64 (Prod.fst (Prod.snd (List.getD v2 (Int.toNat v4) (Ty.dflt RT)))))) then kret v4 true else next v0 v1 v2 v3 (IntKind.wrap IntKind.i64 (v4 + (1 : Int))) else next v0 v1 v2 v3 (IntKind.wrap IntKind.i64 (v4 + (1 : Int))) else none else kexit0
def region_Find.R0 {R : Type} (kret : Int → Bool → Option R) (kexit0 : Option R) : (Int × Int × (List (Int × Int × Bool × Bool × Bool × Bool × List Int × Unit)) × Int × Int) → ((Int × Int × (List (Int × Int × Bool × Bool × Bool × Bool × List Int × Unit)) × Int × Int) → Option R) → Option R := fun (v0, v1, v2, v3, v4) next => region_Find.round0 v0 v1 v2 v3 v4 (fun w0 w1 w2 w3 w4 => next (w0, w1, w2, w3, w4)) kret kexit0
theorem region_Find.R0_eq {R : Type} (kret : Int → Bool → Option R) (kexit0 : Option R) (v0 : Int) (v1 : Int) (v2 : List (Int × Int × Bool × Bool × Bool × Bool × List Int × Unit)) (v3 : Int) (v4 : Int) (next : (Int × Int × (List (Int × Int × Bool × Bool × Bool × Bool × List Int × Unit)) × Int × Int) → Option R) : region_Find.R0 kret kexit0 (v0, v1, v2, v3, v4) next = region_Find.round0 v0 v1 v2 v3 v4 (fun w0 w1 w2 w3 w4 => next (w0, w1, w2, w3, w4)) kret kexit0 := rfl
/-- the first region of the list, the number of whose head is i, that has the bytes from a to e -/
def region_first (a e : Int) : List Reg → Int → Option Int
  | [], _ => none
  | r :: l, i => bif decide (a ≥ r.1) && decide (e ≤ IntKind.wrap .u64 (IntKind.wrap .u64 r.1 + IntKind.wrap .u64 r.2.1)) then some i else region_first a e l (i + 1)
def region_Find.loop0 {R : Type} (a e : Int) (m : List Reg) (n i : Int) (kr : Int → Bool → Option R) (k : Option R) : Option R :=
  if n = m.length ∧ n < 4611686018427387904 ∧ 0 ≤ i ∧ i ≤ n then (match region_first a e (m.drop i.toNat) i with | some j => kr j true | none => k) else none
theorem region_Find.loop0_ok {R : Type} (a e : Int) (m : List Reg) (n i : Int) (kr : Int → Bool → Option R) (k : Option R) (r : R) (h : region_Find.loop0 a e m n i kr k = some r) : ∃ f, lp (region_Find.R0 kr k) f (a, e, m, n, i) = some r := by
  rw [← h]
  unfold region_Find.loop0 at h ⊢
  split at h <;> try (cases h; done)
  rename_i hc
  rw [if_pos hc]
  refine lp_spec (round := region_Find.R0 kr k) (spec := fun (a, e, m, n, i) => match region_first a e (m.drop i.toNat) i with | some j => kr j true | none => k) (inv := fun (a, e, m, n, i) => n = (m.length : Int) ∧ n < 4611686018427387904 ∧ 0 ≤ i ∧ i ≤ n) (μ := fun (a, e, m, n, i) => (n - i).toNat) ?_ (a, e, m, n, i) hc
  rintro ⟨a, e, m, n, i⟩ ⟨h1, h2, h3, h4⟩ next hn
  rw [region_Find.R0_eq, region_Find.round0]
  by_cases hi : i < n
  · obtain ⟨x, hx, hd⟩ := getD_at (d := Ty.dflt RT) h3 (h1 ▸ hi)
    have hnx := hn (a, e, m, n, i + 1) ⟨h1, h2, by omega, by omega⟩ (by simp only; omega)
    rw [decide_eq_true hi, decide_eq_true h3, decide_eq_true (h1 ▸ hi : i < (m.length : Int)), hx, wrap_next h3 hi h2]
    dsimp only
    rw [hnx, hd, region_first]
    cases decide (a ≥ x.1) <;> cases decide (e ≤ IntKind.wrap .u64 (IntKind.wrap .u64 x.1 + IntKind.wrap .u64 x.2.1)) <;> rfl
  · rw [decide_eq_false hi]
    dsimp only
    rw [List.drop_of_length_le (by omega)]
    rfl
def region_Find.C : Cfg := { rows := [], keep := [(0, [1, 8, 20, 21, 22], []), (1000000, [6, 7], [])], adopt := [] }
def region_Find.sum0 : FrV region_Find.T0.fr × StV region_Find.T0.st → (Ex → S → Option (List DVal)) → Option (List DVal) := fun ((v0, v1, v2, v3, v4, ()), (())) K => region_Find.loop0 v0 v1 v2 v3 v4 (fun e0 e1 => K .ret (pack region_Find.X0_ret ((e0, e1, ()), (())))) (K (.exit 0) (pack region_Find.X0_exit0 ((), ())))
def region_Find.rnd0 : FrV region_Find.T0.fr × StV region_Find.T0.st → (FrV region_Find.T0.fr × StV region_Find.T0.st → Option (List DVal)) → (Ex → S → Option (List DVal)) → Option (List DVal) := fun ((v0, v1, v2, v3, v4, ()), (())) next K => region_Find.round0 v0 v1 v2 v3 v4 (fun w0 w1 w2 w3 w4 => next ((w0, w1, w2, w3, w4, ()), (()))) (fun e0 e1 => K .ret (pack region_Find.X0_ret ((e0, e1, ()), (())))) (K (.exit 0) (pack region_Find.X0_exit0 ((), ())))
def region_Find.L : Nat → Option Sum := fun i => if i = 0 then some (sumOf region_Find.T0 region_Find.sum0) else none
theorem region_Find.rnd0_eq : ∀ v (r : S → Option (List DVal)) (K : Ex → S → Option (List DVal)), exec Try.prog region_Find.C region_Find.env region_Find.L 0 (loopOf Try.f27 0) (pack region_Find.T0 v) (fun e s' => match e with | .normal => r (trim region_Find.C 0 s') | e => K e (trim region_Find.C (0 + 1000000) s')) = region_Find.rnd0 v (fun v' => r (pack region_Find.T0 v')) K :=
  fun ((v0, v1, v2, v3, v4, ()), (())) r K => by kernel_rfl
theorem region_Find.lp0 (K : Ex → S → Option (List DVal)) : ∀ (n : Nat) (v0 : Int) (v1 : Int) (v2 : List (Int × Int × Bool × Bool × Bool × Bool × List Int × Unit)) (v3 : Int) (v4 : Int), lp (fun v next => region_Find.rnd0 v next K) n ((v0, v1, v2, v3, v4, ()), (())) = lp (region_Find.R0 (fun e0 e1 => K .ret (pack region_Find.X0_ret ((e0, e1, ()), (())))) (K (.exit 0) (pack region_Find.X0_exit0 ((), ())))) n (v0, v1, v2, v3, v4) := by
  intro n
  induction n with
  | zero => intros; rfl
  | succ n ih =>
    intro v0 v1 v2 v3 v4
    show region_Find.round0 v0 v1 v2 v3 v4 (fun w0 w1 w2 w3 w4 => lp (fun v next => region_Find.rnd0 v next K) n ((w0, w1, w2, w3, w4, ()), (()))) (fun e0 e1 => K .ret (pack region_Find.X0_ret ((e0, e1, ()), (())))) (K (.exit 0) (pack region_Find.X0_exit0 ((), ()))) = region_Find.round0 v0 v1 v2 v3 v4 (fun w0 w1 w2 w3 w4 => lp (region_Find.R0 (fun e0 e1 => K .ret (pack region_Find.X0_ret ((e0, e1, ()), (())))) (K (.exit 0) (pack region_Find.X0_exit0 ((), ())))) n (w0, w1, w2, w3, w4)) (fun e0 e1 => K .ret (pack region_Find.X0_ret ((e0, e1, ()), (())))) (K (.exit 0) (pack region_Find.X0_exit0 ((), ())))
    simp only [ih]
theorem region_Find.sum0_ok : SumOk Try.prog region_Find.C region_Find.env region_Find.L 0 (loopOf Try.f27 0) := sumOk_lp (T := region_Find.T0) (rnd := region_Find.rnd0) (f := region_Find.sum0) rfl region_Find.rnd0_eq fun ((v0, v1, v2, v3, v4, ()), (())) K r h => by
  obtain ⟨n, hn⟩ := region_Find.loop0_ok v0 v1 v2 v3 v4 (fun e0 e1 => K .ret (pack region_Find.X0_ret ((e0, e1, ()), (())))) (K (.exit 0) (pack region_Find.X0_exit0 ((), ()))) r h
  exact ⟨n, by rw [region_Find.lp0]; exact hn⟩
def region_Find.tree {R : Type} (a0 : List (Int × Int × Bool × Bool × Bool × Bool × List Int × Unit)) (a1 : Int) (a2 : Int) (ret : Int → Bool → Option R) : Option R :=
  bif region_Check.pre a0 then bif region_Check a0 != (0 : Int) then ret (0 : Int) false else region_Find.loop0 a1 (IntKind.wrap IntKind.u64 (IntKind.wrap IntKind.u64 a1 + IntKind.wrap IntKind.u64 (region_size a2))) a0 ↑(List.length a0) (0 : Int) (fun e0 e1 => ret e0 e1) (ret (0 : Int) false) else none
theorem region_Find.eq (a0 : List (Int × Int × Bool × Bool × Bool × Bool × List Int × Unit)) (a1 : Int) (a2 : Int) : body Try.prog region_Find.C region_Find.env region_Find.L Try.f27 [⟨Ty.sl RT, a0⟩, ⟨Ty.int IntKind.u32, a1⟩, ⟨Ty.int IntKind.u32, a2⟩] = region_Find.tree a0 a1 a2 (fun r0 r1 => some ([⟨Ty.int IntKind.i64, r0⟩, ⟨Ty.bool, r1⟩] : List DVal)) := by kernel_rfl
def region_Find.pre (l : List Reg) (a n : Int) : Bool := region_Check.pre l
def region_Find (l : List Reg) (a n : Int) : Int × Bool :=
  bif region_Check l != 0 then (0, false) else match region_first a (IntKind.wrap .u64 (IntKind.wrap .u64 a + IntKind.wrap .u64 (region_size n))) l 0 with
    | some j => (j, true)
    | none => (0, false)
theorem region_Find.nice {R : Type} (l : List Reg) (a n : Int) (hp : region_Find.pre l a n = true) (ret : Int → Bool → Option R) : region_Find.tree l a n ret = ret (region_Find l a n).1 (region_Find l a n).2 := by
  have hp1 : region_Check.pre l = true := hp
  have hp' : (l.length : Int) < 4611686018427387904 := region_pre hp1
  unfold region_Find.tree region_Find region_Find.loop0
  rw [hp1, if_pos ⟨rfl, hp', Int.le_refl _, by omega⟩]
  cases region_Check l != 0
  · dsimp only [cond]
    rw [show l.drop (Int.toNat 0) = l from rfl]
    cases region_first a (IntKind.wrap .u64 (IntKind.wrap .u64 a + IntKind.wrap .u64 (region_size n))) l 0 <;> rfl
  · rfl
def region_Find.ctr : Ctr := ctrOf [Ty.sl RT, Ty.int IntKind.u32, Ty.int IntKind.u32] fun x => .guard (region_Find.pre (x.1) (x.2.1) (x.2.2.1)) (.ret [⟨Ty.int IntKind.i64, (region_Find (x.1) (x.2.1) (x.2.2.1)).1⟩, ⟨Ty.bool, (region_Find (x.1) (x.2.1) (x.2.2.1)).2⟩])
theorem region_Find.known : Known Try.prog 27 region_Find.ctr :=
  known_plain region_Find.envOk mixed Try.func27 (by kernel_rfl) (by kernel_rfl) (byId (by kernel_rfl : loopIds Try.f27 = [0]) (by intro q hq; simp only [List.mem_cons, List.not_mem_nil, or_false] at hq; subst hq; first | exact region_Find.sum0_ok)) (noSpots (by kernel_rfl)) fun x rs h => by
    obtain ⟨a0, a1, a2, u⟩ := x
    cases u
    simp only [Cmd.val_guard, Cmd.val_ret] at h
    split at h <;> try (cases h; done)
    rename_i hp
    exact (region_Find.eq a0 a1 a2).trans ((region_Find.nice a0 a1 a2 hp (fun r0 r1 => some ([⟨Ty.int IntKind.i64, r0⟩, ⟨Ty.bool, r1⟩] : List DVal))).trans h)

/-! ### seat_Regions -/
def seat_Regions.env : Env := envNil
theorem seat_Regions.envOk : EnvOk Try.prog seat_Regions.env := envOk_nil _
def seat_Regions.C : Cfg := { rows := [], keep := [], adopt := [] }
def seat_Regions.tree {R : Type} (a0 : List Int) (a1 : List Int) (a2 : List Int) (a3 : List Int) (ret : (List (Int × Int × Bool × Bool × Bool × Bool × List Int × Unit)) → Option R) : Option R :=
  ret [((32768 : Int), (1024 : Int), true, false, true, false, a0, ()), ((536870912 : Int), (256 : Int), true, true, false, false, a1, ()), ((805306368 : Int), (128 : Int), true, true, false, true, a2, ()), ((1073741824 : Int), (128 : Int), true, true, true, false, a3, ())]
theorem seat_Regions.eq (a0 : List Int) (a1 : List Int) (a2 : List Int) (a3 : List Int) : body Try.prog seat_Regions.C seat_Regions.env noL Try.f24 [⟨Ty.sl (Ty.int IntKind.u8), a0⟩, ⟨Ty.sl (Ty.int IntKind.u8), a1⟩, ⟨Ty.sl (Ty.int IntKind.u8), a2⟩, ⟨Ty.sl (Ty.int IntKind.u8), a3⟩] = seat_Regions.tree a0 a1 a2 a3 (fun r0 => some ([⟨Ty.sl RT, r0⟩] : List DVal)) := by kernel_rfl
def seat_Regions (a0 : List Int) (a1 : List Int) (a2 : List Int) (a3 : List Int) : (List (Int × Int × Bool × Bool × Bool × Bool × List Int × Unit)) :=
  [((32768 : Int), (1024 : Int), true, false, true, false, a0, ()), ((536870912 : Int), (256 : Int), true, true, false, false, a1, ()), ((805306368 : Int), (128 : Int), true, true, false, true, a2, ()), ((1073741824 : Int), (128 : Int), true, true, true, false, a3, ())]
theorem seat_Regions.nice {R : Type} (a0 : List Int) (a1 : List Int) (a2 : List Int) (a3 : List Int) (ret : (List (Int × Int × Bool × Bool × Bool × Bool × List Int × Unit)) → Option R) : seat_Regions.tree a0 a1 a2 a3 ret = ret (seat_Regions a0 a1 a2 a3) := by
  unfold seat_Regions.tree seat_Regions
  simp only [Bool.apply_cond ret]
def seat_Regions.ctr : Ctr := ctrOf [Ty.sl (Ty.int IntKind.u8), Ty.sl (Ty.int IntKind.u8), Ty.sl (Ty.int IntKind.u8), Ty.sl (Ty.int IntKind.u8)] fun x => .ret [⟨Ty.sl RT, seat_Regions (x.1) (x.2.1) (x.2.2.1) (x.2.2.2.1)⟩]
theorem seat_Regions.known : Known Try.prog 24 seat_Regions.ctr :=
  known_plain seat_Regions.envOk mixed Try.func24 (by kernel_rfl) (by kernel_rfl) (noLoops (by kernel_rfl)) (noSpots (by kernel_rfl)) fun x rs h => by
    obtain ⟨a0, a1, a2, a3, u⟩ := x
    cases u
    simp only [Cmd.val_ret] at h
    exact (seat_Regions.eq a0 a1 a2 a3).trans ((seat_Regions.nice a0 a1 a2 a3 (fun r0 => some ([⟨Ty.sl RT, r0⟩] : List DVal))).trans h)

/-! ### region_May -/
def region_May.env : Env := envCons 27 region_Find.ctr <| envCons 25 region_Check.ctr <| envCons 38 region_size.ctr <| envNil
theorem region_May.envOk : EnvOk Try.prog region_May.env := envOk_cons region_Find.known (envOk_cons region_Check.known (envOk_cons region_size.known (envOk_nil _)))
def region_May.C : Cfg := { rows := [], keep := [], adopt := [] }
def region_May.tree {R : Type} (a0 : List (Int × Int × Bool × Bool × Bool × Bool × List Int × Unit)) (a1 : Int) (a2 : Int) (a3 : Bool) (ret : Int → Option R) : Option R :=
  bif region_Find.pre a0 a1 a2 then bif region_Check.pre a0 then bif region_Check a0 == (0 : Int) then bif region_size a2 != (0 : Int) then bif Int.tmod a1 (region_size a2) != (0 : Int) then ret (25 : Int) else bif !Prod.snd (region_Find a0 a1 a2) then ret (24 : Int) else bif a3 then bif decide ((0 : Int) ≤ Prod.fst (region_Find a0 a1 a2)) && decide (Prod.fst (region_Find a0 a1 a2) < ↑(List.length a0)) then bif !Prod.fst (Prod.snd (Prod.snd (Prod.snd (List.getD a0 (Int.toNat (Prod.fst (region_Find a0 a1 a2))) (Ty.dflt RT))))) then ret (24 : Int) else bif !a3 then bif decide ((0 : Int) ≤ Prod.fst (region_Find a0 a1 a2)) && decide (Prod.fst (region_Find a0 a1 a2) < ↑(List.length a0)) then bif !Prod.fst (Prod.snd (Prod.snd (List.getD a0 (Int.toNat (Prod.fst (region_Find a0 a1 a2))) (Ty.dflt RT)))) then ret (24 : Int) else ret (0 : Int) else none else ret (0 : Int) else none else bif !a3 then bif decide ((0 : Int) ≤ Prod.fst (region_Find a0 a1 a2)) && decide (Prod.fst (region_Find a0 a1 a2) < ↑(List.length a0)) then bif !Prod.fst (Prod.snd (Prod.snd (List.getD a0 (Int.toNat (Prod.fst (region_Find a0 a1 a2))) (Ty.dflt RT)))) then ret (24 : Int) else ret (0 : Int) else none else ret (0 : Int) else none else bif !Prod.snd (region_Find a0 a1 a2) then ret (24 : Int) else bif a3 then bif decide ((0 : Int) ≤ Prod.fst (region_Find a0 a1 a2)) && decide (Prod.fst (region_Find a0 a1 a2) < ↑(List.length a0)) then bif !Prod.fst (Prod.snd (Prod.snd (Prod.snd (List.getD a0 (Int.toNat (Prod.fst (region_Find a0 a1 a2))) (Ty.dflt RT))))) then ret (24 : Int) else bif !a3 then bif decide ((0 : Int) ≤ Prod.fst (region_Find a0 a1 a2)) && decide (Prod.fst (region_Find a0 a1 a2) < ↑(List.length a0)) then bif !Prod.fst (Prod.snd (Prod.snd (List.getD a0 (Int.toNat (Prod.fst (region_Find a0 a1 a2))) (Ty.dflt RT)))) then ret (24 : Int) else ret (0 : Int) else none else ret (0 : Int) else none else bif !a3 then bif decide ((0 : Int) ≤ Prod.fst (region_Find a0 a1 a2)) && decide (Prod.fst (region_Find a0 a1 a2) < ↑(List.length a0)) then bif !Prod.fst (Prod.snd (Prod.snd (List.getD a0 (Int.toNat (Prod.fst (region_Find a0 a1 a2))) (Ty.dflt RT)))) then ret (24 : Int) else ret (0 : Int) else none else ret (0 : Int) else none else none
theorem region_May.eq (a0 : List (Int × Int × Bool × Bool × Bool × Bool × List Int × Unit)) (a1 : Int) (a2 : Int) (a3 : Bool) : body Try.prog region_May.C region_May.env noL Try.f29 [⟨Ty.sl RT, a0⟩, ⟨Ty.int IntKind.u32, a1⟩, ⟨Ty.int IntKind.u32, a2⟩, ⟨Ty.bool, a3⟩] = region_May.tree a0 a1 a2 a3 (fun r0 => some ([⟨Ty.int IntKind.i64, r0⟩] : List DVal)) := by kernel_rfl
theorem region_first_range (a e : Int) : ∀ (l : List Reg) (i j : Int), region_first a e l i = some j → i ≤ j ∧ j < i + l.length
  | [], i, j, h => by cases h
  | r :: l, i, j, h => by
    unfold region_first at h
    cases hc : (decide (a ≥ r.1) && decide (e ≤ IntKind.wrap .u64 (IntKind.wrap .u64 r.1 + IntKind.wrap .u64 r.2.1))) with
    | true => rw [hc] at h; simp at h; subst h; simp; omega
    | false =>
      rw [hc] at h
      have := region_first_range a e l (i + 1) j h
      simp only [List.length_cons]
      omega
theorem region_Find_range (l : List Reg) (a n : Int) (h : (region_Find l a n).2 = true) : (decide (0 ≤ (region_Find l a n).1) && decide ((region_Find l a n).1 < (l.length : Int))) = true := by
  unfold region_Find at h ⊢
  cases hc : region_Check l != 0 with
  | true => rw [hc] at h; cases h
  | false =>
    rw [hc] at h
    simp only [Bool.cond_false] at h ⊢
    cases hf : region_first a (IntKind.wrap .u64 (IntKind.wrap .u64 a + IntKind.wrap .u64 (region_size n))) l 0 with
    | none => rw [hf] at h; cases h
    | some j =>
      have := region_first_range _ _ _ _ _ hf
      simp only [Bool.and_eq_true, decide_eq_true_eq]
      omega
theorem region_size_ne (n : Int) : (region_size n != 0) = true := by
  unfold region_size
  cases h1 : n == 1
  · cases h2 : n == 2
    · rfl
    · simp at h2; subst h2; rfl
  · simp at h1; subst h1; rfl
def region_at (l : List Reg) (i : Int) : Reg := List.getD l i.toNat (Ty.dflt RT)
def region_May.pre (l : List Reg) (a n : Int) (w : Bool) : Bool := region_Check.pre l
def region_May (l : List Reg) (a n : Int) (w : Bool) : Int :=
  bif region_Check l == 0 && Int.tmod a (region_size n) != 0 then 25 else
  bif !(region_Find l a n).2 || (w && !(region_at l (region_Find l a n).1).2.2.2.1) || (!w && !(region_at l (region_Find l a n).1).2.2.1) then 24 else 0
theorem region_May.nice {R : Type} (l : List Reg) (a n : Int) (w : Bool) (hp : region_May.pre l a n w = true) (ret : Int → Option R) : region_May.tree l a n w ret = ret (region_May l a n w) := by
  have hp1 : region_Check.pre l = true := hp
  have hp2 : region_Find.pre l a n = true := hp
  unfold region_May.tree region_May
  rw [hp1, hp2, region_size_ne]
  cases hf : (region_Find l a n).2
  · cases region_Check l == 0 <;> cases Int.tmod a (region_size n) != 0 <;> rfl
  · rw [region_Find_range l a n hf]
    unfold region_at
    generalize List.getD l (Int.toNat (region_Find l a n).1) (Ty.dflt RT) = x
    obtain ⟨x1, x2, x3, x4, x5⟩ := x
    cases region_Check l == 0 <;> cases Int.tmod a (region_size n) != 0 <;> cases w <;> cases x3 <;> cases x4 <;> rfl
def region_May.ctr : Ctr := ctrOf [Ty.sl RT, Ty.int IntKind.u32, Ty.int IntKind.u32, Ty.bool] fun x => .guard (region_May.pre (x.1) (x.2.1) (x.2.2.1) (x.2.2.2.1)) (.ret [⟨Ty.int IntKind.i64, region_May (x.1) (x.2.1) (x.2.2.1) (x.2.2.2.1)⟩])
theorem region_May.known : Known Try.prog 29 region_May.ctr :=
  known_plain region_May.envOk mixed Try.func29 (by kernel_rfl) (by kernel_rfl) (noLoops (by kernel_rfl)) (noSpots (by kernel_rfl)) fun x rs h => by
    obtain ⟨a0, a1, a2, a3, u⟩ := x
    cases u
    simp only [Cmd.val_guard, Cmd.val_ret] at h
    split at h <;> try (cases h; done)
    rename_i hp
    exact (region_May.eq a0 a1 a2 a3).trans ((region_May.nice a0 a1 a2 a3 hp (fun r0 => some ([⟨Ty.int IntKind.i64, r0⟩] : List DVal))).trans h)

/-! ### region_Secret -/
def region_Secret.env : Env := envCons 27 region_Find.ctr <| envNil
theorem region_Secret.envOk : EnvOk Try.prog region_Secret.env := envOk_cons region_Find.known (envOk_nil _)
def region_Secret.C : Cfg := { rows := [], keep := [], adopt := [] }
def region_Secret.tree {R : Type} (a0 : List (Int × Int × Bool × Bool × Bool × Bool × List Int × Unit)) (a1 : Int) (a2 : Int) (ret : Bool → Option R) : Option R :=
  bif region_Find.pre a0 a1 a2 then bif Prod.snd (region_Find a0 a1 a2) then bif decide ((0 : Int) ≤ Prod.fst (region_Find a0 a1 a2)) && decide (Prod.fst (region_Find a0 a1 a2) < ↑(List.length a0)) then ret (Prod.fst (Prod.snd (Prod.snd (Prod.snd (Prod.snd (Prod.snd (List.getD a0 (Int.toNat (Prod.fst (region_Find a0 a1 a2))) (Ty.dflt RT)))))))) else none else ret false else none
theorem region_Secret.eq (a0 : List (Int × Int × Bool × Bool × Bool × Bool × List Int × Unit)) (a1 : Int) (a2 : Int) : body Try.prog region_Secret.C region_Secret.env noL Try.f31 [⟨Ty.sl RT, a0⟩, ⟨Ty.int IntKind.u32, a1⟩, ⟨Ty.int IntKind.u32, a2⟩] = region_Secret.tree a0 a1 a2 (fun r0 => some ([⟨Ty.bool, r0⟩] : List DVal)) := by kernel_rfl
def region_Secret.pre (l : List Reg) (a n : Int) : Bool := region_Check.pre l
def region_Secret (l : List Reg) (a n : Int) : Bool := (region_Find l a n).2 && (region_at l (region_Find l a n).1).2.2.2.2.2.1
theorem region_Secret.nice {R : Type} (l : List Reg) (a n : Int) (hp : region_Secret.pre l a n = true) (ret : Bool → Option R) : region_Secret.tree l a n ret = ret (region_Secret l a n) := by
  have hp2 : region_Find.pre l a n = true := hp
  unfold region_Secret.tree region_Secret
  rw [hp2]
  cases hf : (region_Find l a n).2
  · rfl
  · rw [region_Find_range l a n hf]
    rfl
def region_Secret.ctr : Ctr := ctrOf [Ty.sl RT, Ty.int IntKind.u32, Ty.int IntKind.u32] fun x => .guard (region_Secret.pre (x.1) (x.2.1) (x.2.2.1)) (.ret [⟨Ty.bool, region_Secret (x.1) (x.2.1) (x.2.2.1)⟩])
theorem region_Secret.known : Known Try.prog 31 region_Secret.ctr :=
  known_plain region_Secret.envOk mixed Try.func31 (by kernel_rfl) (by kernel_rfl) (noLoops (by kernel_rfl)) (noSpots (by kernel_rfl)) fun x rs h => by
    obtain ⟨a0, a1, a2, u⟩ := x
    cases u
    simp only [Cmd.val_guard, Cmd.val_ret] at h
    split at h <;> try (cases h; done)
    rename_i hp
    exact (region_Secret.eq a0 a1 a2).trans ((region_Secret.nice a0 a1 a2 hp (fun r0 => some ([⟨Ty.bool, r0⟩] : List DVal))).trans h)

/-! ### region_Fixed -/
def region_Fixed.env : Env := envCons 27 region_Find.ctr <| envNil
theorem region_Fixed.envOk : EnvOk Try.prog region_Fixed.env := envOk_cons region_Find.known (envOk_nil _)
def region_Fixed.C : Cfg := { rows := [], keep := [], adopt := [] }
def region_Fixed.tree {R : Type} (a0 : List (Int × Int × Bool × Bool × Bool × Bool × List Int × Unit)) (a1 : Int) (a2 : Int) (ret : Bool → Option R) : Option R :=
  bif region_Find.pre a0 a1 a2 then bif Prod.snd (region_Find a0 a1 a2) then bif decide ((0 : Int) ≤ Prod.fst (region_Find a0 a1 a2)) && decide (Prod.fst (region_Find a0 a1 a2) < ↑(List.length a0)) then bif Prod.fst (Prod.snd (Prod.snd (List.getD a0 (Int.toNat (Prod.fst (region_Find a0 a1 a2))) (Ty.dflt RT)))) then bif decide ((0 : Int) ≤ Prod.fst (region_Find a0 a1 a2)) && decide (Prod.fst (region_Find a0 a1 a2) < ↑(List.length a0)) then bif !Prod.fst (Prod.snd (Prod.snd (Prod.snd (List.getD a0 (Int.toNat (Prod.fst (region_Find a0 a1 a2))) (Ty.dflt RT))))) then bif decide ((0 : Int) ≤ Prod.fst (region_Find a0 a1 a2)) && decide (Prod.fst (region_Find a0 a1 a2) < ↑(List.length a0)) then ret !Prod.fst (Prod.snd (Prod.snd (Prod.snd (Prod.snd (Prod.snd (List.getD a0 (Int.toNat (Prod.fst (region_Find a0 a1 a2))) (Ty.dflt RT))))))) else none else ret false else none else ret false else none else ret false else none
theorem region_Fixed.eq (a0 : List (Int × Int × Bool × Bool × Bool × Bool × List Int × Unit)) (a1 : Int) (a2 : Int) : body Try.prog region_Fixed.C region_Fixed.env noL Try.f33 [⟨Ty.sl RT, a0⟩, ⟨Ty.int IntKind.u32, a1⟩, ⟨Ty.int IntKind.u32, a2⟩] = region_Fixed.tree a0 a1 a2 (fun r0 => some ([⟨Ty.bool, r0⟩] : List DVal)) := by kernel_rfl
def region_Fixed.pre (l : List Reg) (a n : Int) : Bool := region_Check.pre l
def region_Fixed (l : List Reg) (a n : Int) : Bool := (region_Find l a n).2 && (region_at l (region_Find l a n).1).2.2.1 && !(region_at l (region_Find l a n).1).2.2.2.1 && !(region_at l (region_Find l a n).1).2.2.2.2.2.1
theorem region_Fixed.nice {R : Type} (l : List Reg) (a n : Int) (hp : region_Fixed.pre l a n = true) (ret : Bool → Option R) : region_Fixed.tree l a n ret = ret (region_Fixed l a n) := by
  have hp2 : region_Find.pre l a n = true := hp
  unfold region_Fixed.tree region_Fixed
  rw [hp2]
  cases hf : (region_Find l a n).2
  · rfl
  · rw [region_Find_range l a n hf]
    unfold region_at
    generalize List.getD l (Int.toNat (region_Find l a n).1) (Ty.dflt RT) = x
    obtain ⟨x1, x2, x3, x4, x5, x6, x7⟩ := x
    cases x3 <;> cases x4 <;> cases x6 <;> rfl
def region_Fixed.ctr : Ctr := ctrOf [Ty.sl RT, Ty.int IntKind.u32, Ty.int IntKind.u32] fun x => .guard (region_Fixed.pre (x.1) (x.2.1) (x.2.2.1)) (.ret [⟨Ty.bool, region_Fixed (x.1) (x.2.1) (x.2.2.1)⟩])
theorem region_Fixed.known : Known Try.prog 33 region_Fixed.ctr :=
  known_plain region_Fixed.envOk mixed Try.func33 (by kernel_rfl) (by kernel_rfl) (noLoops (by kernel_rfl)) (noSpots (by kernel_rfl)) fun x rs h => by
    obtain ⟨a0, a1, a2, u⟩ := x
    cases u
    simp only [Cmd.val_guard, Cmd.val_ret] at h
    split at h <;> try (cases h; done)
    rename_i hp
    exact (region_Fixed.eq a0 a1 a2).trans ((region_Fixed.nice a0 a1 a2 hp (fun r0 => some ([⟨Ty.bool, r0⟩] : List DVal))).trans h)

/-! ### region_Exec -/
def region_Exec.env : Env := envCons 27 region_Find.ctr <| envNil
theorem region_Exec.envOk : EnvOk Try.prog region_Exec.env := envOk_cons region_Find.known (envOk_nil _)
def region_Exec.C : Cfg := { rows := [], keep := [], adopt := [] }
def region_Exec.tree {R : Type} (a0 : List (Int × Int × Bool × Bool × Bool × Bool × List Int × Unit)) (a1 : Int) (ret : Int → Option R) : Option R :=
  bif region_Find.pre a0 a1 (2 : Int) then bif Int.tmod a1 (2 : Int) != (0 : Int) then ret (26 : Int) else bif !Prod.snd (region_Find a0 a1 (2 : Int)) then ret (26 : Int) else bif decide ((0 : Int) ≤ Prod.fst (region_Find a0 a1 (2 : Int))) && decide (Prod.fst (region_Find a0 a1 (2 : Int)) < ↑(List.length a0)) then bif !Prod.fst (Prod.snd (Prod.snd (Prod.snd (Prod.snd (List.getD a0 (Int.toNat (Prod.fst (region_Find a0 a1 (2 : Int)))) (Ty.dflt RT)))))) then ret (26 : Int) else ret (0 : Int) else none else none
theorem region_Exec.eq (a0 : List (Int × Int × Bool × Bool × Bool × Bool × List Int × Unit)) (a1 : Int) : body Try.prog region_Exec.C region_Exec.env noL Try.f35 [⟨Ty.sl RT, a0⟩, ⟨Ty.int IntKind.u32, a1⟩] = region_Exec.tree a0 a1 (fun r0 => some ([⟨Ty.int IntKind.i64, r0⟩] : List DVal)) := by kernel_rfl
def region_Exec.pre (l : List Reg) (a : Int) : Bool := region_Check.pre l
def region_Exec (l : List Reg) (a : Int) : Int := bif Int.tmod a 2 != 0 || !(region_Find l a 2).2 || !(region_at l (region_Find l a 2).1).2.2.2.2.1 then 26 else 0
theorem region_Exec.nice {R : Type} (l : List Reg) (a : Int) (hp : region_Exec.pre l a = true) (ret : Int → Option R) : region_Exec.tree l a ret = ret (region_Exec l a) := by
  have hp2 : region_Find.pre l a 2 = true := hp
  unfold region_Exec.tree region_Exec
  rw [hp2]
  cases hf : (region_Find l a 2).2
  · cases Int.tmod a 2 != 0 <;> rfl
  · rw [region_Find_range l a 2 hf]
    unfold region_at
    generalize List.getD l (Int.toNat (region_Find l a 2).1) (Ty.dflt RT) = x
    obtain ⟨x1, x2, x3, x4, x5, x6⟩ := x
    cases Int.tmod a 2 != 0 <;> cases x5 <;> rfl

def region_Exec.ctr : Ctr := ctrOf [Ty.sl RT, Ty.int IntKind.u32] fun x => .guard (region_Exec.pre (x.1) (x.2.1)) (.ret [⟨Ty.int IntKind.i64, region_Exec (x.1) (x.2.1)⟩])
theorem region_Exec.known : Known Try.prog 35 region_Exec.ctr :=
  known_plain region_Exec.envOk mixed Try.func35 (by kernel_rfl) (by kernel_rfl) (noLoops (by kernel_rfl)) (noSpots (by kernel_rfl)) fun x rs h => by
    obtain ⟨a0, a1, u⟩ := x
    cases u
    simp only [Cmd.val_guard, Cmd.val_ret] at h
    split at h <;> try (cases h; done)
    rename_i hp
    exact (region_Exec.eq a0 a1).trans ((region_Exec.nice a0 a1 hp (fun r0 => some ([⟨Ty.int IntKind.i64, r0⟩] : List DVal))).trans h)
end
end Go.D.Ytmdnddoiopgboaa
