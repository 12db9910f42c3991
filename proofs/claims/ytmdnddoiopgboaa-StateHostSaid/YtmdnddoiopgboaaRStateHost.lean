/- sourdine's law StateHost returns true for every input, and its arguments read behind the call as they read before. -/
import Derived.Test.YtmdnddoiopgboaaRows
import Derived.Test.YtmdnddoiopgboaaLlaw12
import Derived.ProofKit
namespace Go.Proofs.Ytmdnddoiopgboaa.StateHost
open Go.ChangeShapes Go.WideShapes Go.ChangeAt Go.RowKit Go.D Go.D.Ytmdnddoiopgboaa
set_option linter.unusedSimpArgs false
set_option linter.unusedVariables false
set_option maxRecDepth 100000

theorem good_int {k : IntKind} {n : Int} (h : good (.int k) n) : k.min ≤ n ∧ n ≤ k.max := by
  have h : (decide (k.min ≤ n) && decide (n ≤ k.max)) = true := h
  simpa using h
theorem u8_of {n : Int} (h : good (.int .u8) n) : decide (0 ≤ n ∧ n < 256) = true := by
  have := good_int h
  exact decide_eq_true ⟨this.1, by have : n ≤ 255 := this.2; omega⟩
theorem len_good {n : Nat} {g : Gd} {l : List g.ty.den} (h : good (.arr n g) l) : (l.length == n) = true := by
  have := h.1
  simpa using this
theorem true' (ds : List DVal) (h : Goods [.arr 32 (.int .u32), .int .u8, .int .u32, .bool] ds) : (law12_StateHost.ctr.run ds).val = some [⟨.bool, true⟩] := by
  obtain _ | ⟨x0, h0, h⟩ := h
  obtain _ | ⟨x1, h1, h⟩ := h
  obtain _ | ⟨x2, h2, h⟩ := h
  obtain _ | ⟨x3, h3, h⟩ := h
  obtain _ | ⟨h⟩ := h
  obtain ⟨a1, b1⟩ := good_int h1
  obtain ⟨a2, b2⟩ := good_int h2
  show ((Cmd.guard (law12_StateHost.pre x0 x1 x2 x3) (.ret [⟨.bool, law12_StateHost x0 x1 x2 x3⟩])).val : Option (List DVal)) = _
  rw [show law12_StateHost.pre x0 x1 x2 x3 = true from by unfold law12_StateHost.pre; rw [u8_of h1]; simpa using h0.1]
  rfl
theorem lifted (os : Os) (started : os.Started) (H : Type) (enc : TypeId × Value → H) :
    ReturnsInHanded {} Try.checked os 5 .any (Rows.stateHostSpec.pre6 enc Try.prog Try.f5 Rows.stateHostRow.domain false) (Rows.stateHostSpec.post enc Try.prog Try.f5 false true false false) :=
  law_row (C := Try.checked) (f := 5) (fn := Try.f5) (ctr := law12_StateHost.ctr) (gs := [.arr 32 (.int .u32), .int .u8, .int .u32, .bool]) (by kernel_rfl) started (by kernel_rfl) Try.func5
    (ChangeSpec.witness6 (enc := enc) (C := Try.checked) false ⟨#[], #[.agg #[.int .u32 0, .int .u32 0, .int .u32 0, .int .u32 0, .int .u32 0, .int .u32 0, .int .u32 0, .int .u32 0, .int .u32 0, .int .u32 0, .int .u32 0, .int .u32 0, .int .u32 0, .int .u32 0, .int .u32 0, .int .u32 0, .int .u32 0, .int .u32 0, .int .u32 0, .int .u32 0, .int .u32 0, .int .u32 0, .int .u32 0, .int .u32 0, .int .u32 0, .int .u32 0, .int .u32 0, .int .u32 0, .int .u32 0, .int .u32 0, .int .u32 0, .int .u32 0], .int .u8 0, .int .u32 0, .bool false], []⟩ 8 (by kernel_rfl) (by kernel_rfl) (by kernel_rfl) (by kernel_rfl))
    rfl rfl rfl (by kernel_rfl) rfl (fun ds h => by match ds, h with | [_, _, _, _], _ => rfl) (by kernel_rfl) (by kernel_rfl) (by kernel_rfl) law12_StateHost.known.2 true'
theorem proved : Rows.StateHostSaid :=
  OpenClaim.holds_of_wide 5 Try.f5 rfl rfl rfl rfl rfl rfl rfl ⟨rfl, rfl, rfl, rfl, rfl⟩ rfl rfl rfl rfl rfl (by kernel_rfl) Try.func5 (by kernel_rfl)
    (of_decide_eq_true (by kernel_rfl)) (by unfold Func.isWrapper; first | (rw [if_pos (by decide +kernel)]; kernel_rfl) | (rw [if_neg (by decide +kernel)]; exact ⟨rfl, rfl⟩))
    (fun os started H enc _ => lifted os started H enc)
end Go.Proofs.Ytmdnddoiopgboaa.StateHost
