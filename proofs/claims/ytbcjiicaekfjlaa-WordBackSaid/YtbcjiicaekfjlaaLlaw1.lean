import Derived.Test.YtbcjiicaekfjlaaChecked
import Derived.Test.YtbcjiicaekfjlaaDX
import Derived.KernelRfl
import Derived.Test.YtbcjiicaekfjlaaLword
namespace Go.D.Ytbcjiicaekfjlaa
open Go.Proofs
set_option linter.unusedVariables false
set_option linter.unusedSimpArgs false
set_option maxRecDepth 100000
noncomputable section


/-! ### law1_known -/
def law1_known.env : Env := envCons 28 word_AddCarry.ctr <| envCons 26 word_Shift.ctr <| envCons 30 word_Expand.ctr <| envCons 32 word_Compress.ctr <| envCons 48 word_Mul64.ctr <| envCons 34 word_Clz.ctr <| envCons 36 word_Rbit.ctr <| envCons 38 word_Rev.ctr <| envCons 40 word_Rev16.ctr <| envCons 42 word_Revsh.ctr <| envCons 44 word_Sign.ctr <| envCons 46 word_Zero.ctr <| envCons 52 word_DivS.ctr <| envCons 50 word_DivU.ctr <| envNil
theorem law1_known.envOk : EnvOk Try.prog law1_known.env := envOk_cons word_AddCarry.known (envOk_cons word_Shift.known (envOk_cons word_Expand.known (envOk_cons word_Compress.known (envOk_cons word_Mul64.known (envOk_cons word_Clz.known (envOk_cons word_Rbit.known (envOk_cons word_Rev.known (envOk_cons word_Rev16.known (envOk_cons word_Revsh.known (envOk_cons word_Sign.known (envOk_cons word_Zero.known (envOk_cons word_DivS.known (envOk_cons word_DivU.known (envOk_nil _))))))))))))))

def law1_known.C : Cfg := { rows := [], keep := [], adopt := [] }
def law1_known.tree {R : Type}  (ret : Bool → Option R) : Option R :=
  ret true
theorem law1_known.eq  : body Try.prog law1_known.C law1_known.env noL Try.f25 [] = law1_known.tree  (fun r0 => some ([⟨Ty.bool, r0⟩] : List DVal)) := by kernel_rfl
def law1_known  : Bool :=
  true
theorem law1_known.nice {R : Type}  (ret : Bool → Option R) : law1_known.tree  ret = ret (law1_known ) := by
  unfold law1_known.tree law1_known
  simp only [Bool.apply_cond ret]
def law1_known.ctr : Ctr := ctrOf [] fun x => .ret [⟨Ty.bool, law1_known ⟩]
theorem law1_known.known : Known Try.prog 25 law1_known.ctr :=
  known_plain law1_known.envOk mixed Try.func25 (by kernel_rfl) (by kernel_rfl) (noLoops (by kernel_rfl)) (noSpots (by kernel_rfl)) fun x rs h => by
    have u := x
    cases x
    simp only [Cmd.val_ret] at h
    exact (law1_known.eq ).trans ((law1_known.nice  (fun r0 => some ([⟨Ty.bool, r0⟩] : List DVal))).trans h)
end
end Go.D.Ytbcjiicaekfjlaa
