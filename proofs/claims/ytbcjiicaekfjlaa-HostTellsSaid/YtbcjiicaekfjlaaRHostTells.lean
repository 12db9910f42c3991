/- sourdine's law HostTells returns true for every input, and its arguments read behind the call as they read before. -/
import Derived.Test.YtbcjiicaekfjlaaRows
import Derived.Test.YtbcjiicaekfjlaaLlaw5
import Derived.ProofKit
namespace Go.Proofs.Ytbcjiicaekfjlaa.HostTells
open Go.ChangeShapes Go.WideShapes Go.ChangeAt Go.RowKit Go.D Go.D.Ytbcjiicaekfjlaa
set_option linter.unusedSimpArgs false
set_option linter.unusedVariables false
set_option maxRecDepth 100000

theorem good_int {k : IntKind} {n : Int} (h : good (.int k) n) : k.min ≤ n ∧ n ≤ k.max := by
  have h : (decide (k.min ≤ n) && decide (n ≤ k.max)) = true := h
  simpa using h
theorem true' (ds : List DVal) (h : Goods [.int .i64] ds) : (law5_HostTells.ctr.run ds).val = some [⟨.bool, true⟩] := by
  obtain _ | ⟨x0, h0, h⟩ := h
  obtain _ | ⟨h⟩ := h
  obtain ⟨a0, b0⟩ := good_int h0
  rfl
theorem lifted (os : Os) (started : os.Started) (H : Type) (enc : TypeId × Value → H) :
    ReturnsInHanded {} Try.checked os 3 .any (Rows.hostTellsSpec.pre6 enc Try.prog Try.f3 Rows.hostTellsRow.domain false) (Rows.hostTellsSpec.post enc Try.prog Try.f3 false true false false) :=
  law_row (C := Try.checked) (f := 3) (fn := Try.f3) (ctr := law5_HostTells.ctr) (gs := [.int .i64]) (by kernel_rfl) started (by kernel_rfl) Try.func3
    (ChangeSpec.witness6 (enc := enc) (C := Try.checked) false ⟨#[], #[.int .i64 0], []⟩ 8 (by kernel_rfl) (by kernel_rfl) (by kernel_rfl) (by kernel_rfl))
    rfl rfl rfl (by kernel_rfl) rfl (fun ds h => by match ds, h with | [_], _ => rfl) (by kernel_rfl) (by kernel_rfl) (by kernel_rfl) law5_HostTells.known.2 true'
theorem proved : Rows.HostTellsSaid :=
  OpenClaim.holds_of_wide 3 Try.f3 rfl rfl rfl rfl rfl rfl rfl ⟨rfl, rfl, rfl, rfl, rfl⟩ rfl rfl rfl rfl rfl (by kernel_rfl) Try.func3 (by kernel_rfl)
    (of_decide_eq_true (by kernel_rfl)) (by unfold Func.isWrapper; first | (rw [if_pos (by decide +kernel)]; kernel_rfl) | (rw [if_neg (by decide +kernel)]; exact ⟨rfl, rfl⟩))
    (fun os started H enc _ => lifted os started H enc)
end Go.Proofs.Ytbcjiicaekfjlaa.HostTells
