/- sourdine's law StateTells returns true for every input, and its arguments read behind the call as they read before. -/
import Derived.Test.YtmdnddoiopgboaaRows
import Derived.Test.YtmdnddoiopgboaaLtells12
import Derived.ProofKit
namespace Go.Proofs.Ytmdnddoiopgboaa.StateTells
open Go.ChangeShapes Go.WideShapes Go.ChangeAt Go.RowKit Go.D Go.D.Ytmdnddoiopgboaa
set_option linter.unusedSimpArgs false
set_option linter.unusedVariables false
set_option maxRecDepth 100000

theorem good_int {k : IntKind} {n : Int} (h : good (.int k) n) : k.min ≤ n ∧ n ≤ k.max := by
  have h : (decide (k.min ≤ n) && decide (n ≤ k.max)) = true := h
  simpa using h
theorem u32B_of {n : Int} (h : good (.int .u32) n) : u32B n = true := by
  have := good_int h
  unfold u32B
  exact decide_eq_true ⟨this.1, by have : n ≤ 4294967295 := this.2; omega⟩
theorem sta_good {x : Sta} (h : good (.pair (.arr 16 (.int .u32)) (.pair (.int .i64) (.pair .bool .unit))) x) : sta_ok x = true := by
  obtain ⟨⟨h1, h2⟩, _⟩ := h
  unfold sta_ok
  rw [Bool.and_eq_true]
  refine ⟨by simpa using h1, List.all_eq_true.2 fun y hy => u32B_of (h2 y ?_)⟩
  exact hy
theorem u8_of {n : Int} (h : good (.int .u8) n) : decide (0 ≤ n ∧ n < 256) = true := by
  have := good_int h
  exact decide_eq_true ⟨this.1, by have : n ≤ 255 := this.2; omega⟩
theorem true' (ds : List DVal) (h : Goods [.pair (.arr 16 (.int .u32)) (.pair (.int .i64) (.pair .bool .unit)), .pair (.arr 16 (.int .u32)) (.pair (.int .i64) (.pair .bool .unit)), .int .u32, .int .u32, .arr 32 (.int .u32), .bool, .int .u8, .int .u32] ds) : (law12_StateTells.ctr.run ds).val = some [⟨.bool, true⟩] := by
  obtain _ | ⟨x0, h0, h⟩ := h
  obtain _ | ⟨x1, h1, h⟩ := h
  obtain _ | ⟨x2, h2, h⟩ := h
  obtain _ | ⟨x3, h3, h⟩ := h
  obtain _ | ⟨x4, h4, h⟩ := h
  obtain _ | ⟨x5, h5, h⟩ := h
  obtain _ | ⟨x6, h6, h⟩ := h
  obtain _ | ⟨x7, h7, h⟩ := h
  obtain _ | ⟨h⟩ := h
  obtain ⟨a2, b2⟩ := good_int h2
  obtain ⟨a3, b3⟩ := good_int h3
  obtain ⟨a6, b6⟩ := good_int h6
  obtain ⟨a7, b7⟩ := good_int h7
  show ((Cmd.guard (law12_StateTells.pre x0 x1 x2 x3 x4 x5 x6 x7) (.ret [⟨.bool, law12_StateTells x0 x1 x2 x3 x4 x5 x6 x7⟩])).val : Option (List DVal)) = _
  rw [show law12_StateTells.pre x0 x1 x2 x3 x4 x5 x6 x7 = true from by unfold law12_StateTells.pre; rw [sta_good h0, sta_good h1, u8_of h6]; simpa using h4.1]
  rfl
theorem lifted (os : Os) (started : os.Started) (H : Type) (enc : TypeId × Value → H) :
    ReturnsInHanded {} Try.checked os 3 .any (Rows.stateTellsSpec.pre6 enc Try.prog Try.f3 Rows.stateTellsRow.domain false) (Rows.stateTellsSpec.post enc Try.prog Try.f3 false true false false) :=
  law_row (C := Try.checked) (f := 3) (fn := Try.f3) (ctr := law12_StateTells.ctr) (gs := [.pair (.arr 16 (.int .u32)) (.pair (.int .i64) (.pair .bool .unit)), .pair (.arr 16 (.int .u32)) (.pair (.int .i64) (.pair .bool .unit)), .int .u32, .int .u32, .arr 32 (.int .u32), .bool, .int .u8, .int .u32]) (by kernel_rfl) started (by kernel_rfl) Try.func3
    (ChangeSpec.witness6 (enc := enc) (C := Try.checked) false ⟨#[], #[.agg #[.int .u32 0, .int .u32 0, .int .u32 0, .int .u32 0, .int .u32 0, .int .u32 0, .int .u32 0, .int .u32 0, .int .u32 0, .int .u32 0, .int .u32 0, .int .u32 0, .int .u32 0, .int .u32 0, .int .u32 0, .int .u32 0, .int .i64 0, .bool false], .agg #[.int .u32 0, .int .u32 0, .int .u32 0, .int .u32 0, .int .u32 0, .int .u32 0, .int .u32 0, .int .u32 0, .int .u32 0, .int .u32 0, .int .u32 0, .int .u32 0, .int .u32 0, .int .u32 0, .int .u32 0, .int .u32 0, .int .i64 0, .bool false], .int .u32 0, .int .u32 0, .agg #[.int .u32 0, .int .u32 0, .int .u32 0, .int .u32 0, .int .u32 0, .int .u32 0, .int .u32 0, .int .u32 0, .int .u32 0, .int .u32 0, .int .u32 0, .int .u32 0, .int .u32 0, .int .u32 0, .int .u32 0, .int .u32 0, .int .u32 0, .int .u32 0, .int .u32 0, .int .u32 0, .int .u32 0, .int .u32 0, .int .u32 0, .int .u32 0, .int .u32 0, .int .u32 0, .int .u32 0, .int .u32 0, .int .u32 0, .int .u32 0, .int .u32 0, .int .u32 0], .bool false, .int .u8 0, .int .u32 0], []⟩ 8 (by kernel_rfl) (by kernel_rfl) (by kernel_rfl) (by kernel_rfl))
    rfl rfl rfl (by kernel_rfl) rfl (fun ds h => by match ds, h with | [_, _, _, _, _, _, _, _], _ => rfl) (by kernel_rfl) (by kernel_rfl) (by kernel_rfl) law12_StateTells.known.2 true'
theorem proved : Rows.StateTellsSaid :=
  OpenClaim.holds_of_wide 3 Try.f3 rfl rfl rfl rfl rfl rfl rfl ⟨rfl, rfl, rfl, rfl, rfl⟩ rfl rfl rfl rfl rfl (by kernel_rfl) Try.func3 (by kernel_rfl)
    (of_decide_eq_true (by kernel_rfl)) (by unfold Func.isWrapper; first | (rw [if_pos (by decide +kernel)]; kernel_rfl) | (rw [if_neg (by decide +kernel)]; exact ⟨rfl, rfl⟩))
    (fun os started H enc _ => lifted os started H enc)
end Go.Proofs.Ytmdnddoiopgboaa.StateTells
