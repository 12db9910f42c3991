/- sourdine's law RegionOne returns true for every input, and its arguments read behind the call as they read before. -/
import Derived.Test.YtmdnddoiopgboaaRows
import Derived.Test.YtmdnddoiopgboaaLone3
import Derived.ProofKit
namespace Go.Proofs.Ytmdnddoiopgboaa.RegionOne
open Go.ChangeShapes Go.WideShapes Go.ChangeAt Go.RowKit Go.D Go.D.Ytmdnddoiopgboaa
set_option linter.unusedSimpArgs false
set_option linter.unusedVariables false
set_option maxRecDepth 100000

theorem good_int {k : IntKind} {n : Int} (h : good (.int k) n) : k.min ≤ n ∧ n ≤ k.max := by
  have h : (decide (k.min ≤ n) && decide (n ≤ k.max)) = true := h
  simpa using h
theorem u32B_of {n : Int} (h : good (.int .u32) n) : decide (0 ≤ n ∧ n < 4294967296) = true := by
  have := good_int h
  exact decide_eq_true ⟨this.1, by have : n ≤ 4294967295 := this.2; omega⟩
theorem u32s_of {b : Nat} {l : List Int} (h : good (.sl b (.int .u32)) l) : u32s l = true := by
  unfold u32s
  exact List.all_eq_true.2 fun y hy => u32B_of (h.2 y hy)
theorem true' (ds : List DVal) (h : Goods [.sl 4 (.arr 4 (.int .u8)), .sl 4 (.int .u32), .int .u32] ds) : (law3_RegionOne.ctr.run ds).val = some [⟨.bool, true⟩] := by
  obtain _ | ⟨x0, h0, h⟩ := h
  obtain _ | ⟨x1, h1, h⟩ := h
  obtain _ | ⟨x2, h2, h⟩ := h
  obtain _ | ⟨h⟩ := h
  obtain ⟨a2, b2⟩ := good_int h2
  show ((Cmd.guard (law3_RegionOne.pre x0 x1 x2) (.ret [⟨.bool, law3_RegionOne x0 x1 x2⟩])).val : Option (List DVal)) = _
  rw [show law3_RegionOne.pre x0 x1 x2 = true from by unfold law3_RegionOne.pre; rw [u32s_of h1, u32B_of h2]; rfl]
  rfl
theorem lifted (os : Os) (started : os.Started) (H : Type) (enc : TypeId × Value → H) :
    ReturnsInHanded {} Try.checked os 8 .any (Rows.regionOneSpec.pre6 enc Try.prog Try.f8 Rows.regionOneRow.domain false) (Rows.regionOneSpec.post enc Try.prog Try.f8 false true false false) :=
  law_row (C := Try.checked) (f := 8) (fn := Try.f8) (ctr := law3_RegionOne.ctr) (gs := [.sl 4 (.arr 4 (.int .u8)), .sl 4 (.int .u32), .int .u32]) (by kernel_rfl) started (by kernel_rfl) Try.func8
    (ChangeSpec.witness6 (enc := enc) (C := Try.checked) false ⟨#[], #[.slice none 0 0, .slice none 0 0, .int .u32 0], []⟩ 8 (by kernel_rfl) (by kernel_rfl) (by kernel_rfl) (by kernel_rfl))
    rfl rfl rfl (by kernel_rfl) rfl (fun ds h => by match ds, h with | [_, _, _], _ => rfl) (by kernel_rfl) (by kernel_rfl) (by kernel_rfl) law3_RegionOne.known.2 true'
theorem proved : Rows.RegionOneSaid :=
  OpenClaim.holds_of_wide 8 Try.f8 rfl rfl rfl rfl rfl rfl rfl ⟨rfl, rfl, rfl, rfl, rfl⟩ rfl rfl rfl rfl rfl (by kernel_rfl) Try.func8 (by kernel_rfl)
    (of_decide_eq_true (by kernel_rfl)) (by unfold Func.isWrapper; first | (rw [if_pos (by decide +kernel)]; kernel_rfl) | (rw [if_neg (by decide +kernel)]; exact ⟨rfl, rfl⟩))
    (fun os started H enc _ => lifted os started H enc)
end Go.Proofs.Ytmdnddoiopgboaa.RegionOne
