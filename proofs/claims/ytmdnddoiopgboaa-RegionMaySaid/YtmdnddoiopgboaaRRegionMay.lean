/- sourdine's law RegionMay returns true for every input, and its arguments read behind the call as they read before. -/
import Derived.Test.YtmdnddoiopgboaaRows
import Derived.Test.YtmdnddoiopgboaaLlaw3
import Derived.ProofKit
namespace Go.Proofs.Ytmdnddoiopgboaa.RegionMay
open Go.ChangeShapes Go.WideShapes Go.ChangeAt Go.RowKit Go.D Go.D.Ytmdnddoiopgboaa
set_option linter.unusedSimpArgs false
set_option linter.unusedVariables false
set_option maxRecDepth 100000

theorem good_int {k : IntKind} {n : Int} (h : good (.int k) n) : k.min ≤ n ∧ n ≤ k.max := by
  have h : (decide (k.min ≤ n) && decide (n ≤ k.max)) = true := h
  simpa using h
theorem true' (ds : List DVal) (h : Goods [.int .u32, .bool, .int .u8] ds) : (law3_RegionMay.ctr.run ds).val = some [⟨.bool, true⟩] := by
  obtain _ | ⟨x0, h0, h⟩ := h
  obtain _ | ⟨x1, h1, h⟩ := h
  obtain _ | ⟨x2, h2, h⟩ := h
  obtain _ | ⟨h⟩ := h
  obtain ⟨a0, b0⟩ := good_int h0
  obtain ⟨a2, b2⟩ := good_int h2
  show ((Cmd.guard (law3_RegionMay.pre x0 x1 x2) (.ret [⟨.bool, law3_RegionMay x0 x1 x2⟩])).val : Option (List DVal)) = _
  rw [show law3_RegionMay.pre x0 x1 x2 = true from decide_eq_true a2]
  rfl
theorem lifted (os : Os) (started : os.Started) (H : Type) (enc : TypeId × Value → H) :
    ReturnsInHanded {} Try.checked os 9 .any (Rows.regionMaySpec.pre6 enc Try.prog Try.f9 Rows.regionMayRow.domain false) (Rows.regionMaySpec.post enc Try.prog Try.f9 false true false false) :=
  law_row (C := Try.checked) (f := 9) (fn := Try.f9) (ctr := law3_RegionMay.ctr) (gs := [.int .u32, .bool, .int .u8]) (by kernel_rfl) started (by kernel_rfl) Try.func9
    (ChangeSpec.witness6 (enc := enc) (C := Try.checked) false ⟨#[], #[.int .u32 0, .bool false, .int .u8 0], []⟩ 8 (by kernel_rfl) (by kernel_rfl) (by kernel_rfl) (by kernel_rfl))
    rfl rfl rfl (by kernel_rfl) rfl (fun ds h => by match ds, h with | [_, _, _], _ => rfl) (by kernel_rfl) (by kernel_rfl) (by kernel_rfl) law3_RegionMay.known.2 true'
theorem proved : Rows.RegionMaySaid :=
  OpenClaim.holds_of_wide 9 Try.f9 rfl rfl rfl rfl rfl rfl rfl ⟨rfl, rfl, rfl, rfl, rfl⟩ rfl rfl rfl rfl rfl (by kernel_rfl) Try.func9 (by kernel_rfl)
    (of_decide_eq_true (by kernel_rfl)) (by unfold Func.isWrapper; first | (rw [if_pos (by decide +kernel)]; kernel_rfl) | (rw [if_neg (by decide +kernel)]; exact ⟨rfl, rfl⟩))
    (fun os started H enc _ => lifted os started H enc)
end Go.Proofs.Ytmdnddoiopgboaa.RegionMay
