/- sourdine's law HostWrites returns true for every input, and its arguments read behind the call as they read before. -/
import Derived.Test.YtbcjiicaekfjlaaRows
import Derived.Test.YtbcjiicaekfjlaaLwrites5
import Derived.ProofKit
namespace Go.Proofs.Ytbcjiicaekfjlaa.HostWrites
open Go.ChangeShapes Go.WideShapes Go.ChangeAt Go.RowKit Go.D Go.D.Ytbcjiicaekfjlaa
set_option linter.unusedSimpArgs false
set_option linter.unusedVariables false
set_option maxRecDepth 100000

theorem good_int {k : IntKind} {n : Int} (h : good (.int k) n) : k.min ≤ n ∧ n ≤ k.max := by
  have h : (decide (k.min ≤ n) && decide (n ≤ k.max)) = true := h
  simpa using h
theorem u32_of {n : Int} (h : good (.int .u32) n) : decide (0 ≤ n ∧ n < 4294967296) = true := by
  have := good_int h
  exact decide_eq_true ⟨this.1, by have : n ≤ 4294967295 := this.2; omega⟩
theorem u8_of {n : Int} (h : good (.int .u8) n) : decide (0 ≤ n ∧ n < 256) = true := by
  have := good_int h
  exact decide_eq_true ⟨this.1, by have : n ≤ 255 := this.2; omega⟩
theorem true' (ds : List DVal) (h : Goods [.pair (.int .i64) (.pair (.int .i64) (.pair (.int .i64) (.pair (.int .i64) (.pair (.int .i64) (.pair (.int .u32) .unit))))), .int .u8, .int .u8, .int .u8, .int .u8, .int .u8, .int .u32] ds) : (law5_HostWrites.ctr.run ds).val = some [⟨.bool, true⟩] := by
  obtain _ | ⟨x0, h0, h⟩ := h
  obtain _ | ⟨x1, h1, h⟩ := h
  obtain _ | ⟨x2, h2, h⟩ := h
  obtain _ | ⟨x3, h3, h⟩ := h
  obtain _ | ⟨x4, h4, h⟩ := h
  obtain _ | ⟨x5, h5, h⟩ := h
  obtain _ | ⟨x6, h6, h⟩ := h
  obtain _ | ⟨h⟩ := h
  obtain ⟨a1, b1⟩ := good_int h1
  obtain ⟨a2, b2⟩ := good_int h2
  obtain ⟨a3, b3⟩ := good_int h3
  obtain ⟨a4, b4⟩ := good_int h4
  obtain ⟨a5, b5⟩ := good_int h5
  obtain ⟨a6, b6⟩ := good_int h6
  show ((Cmd.guard (law5_HostWrites.pre x0 x1 x2 x3 x4 x5 x6) (.ret [⟨.bool, law5_HostWrites x0 x1 x2 x3 x4 x5 x6⟩])).val : Option (List DVal)) = _
  rw [show law5_HostWrites.pre x0 x1 x2 x3 x4 x5 x6 = true from by unfold law5_HostWrites.pre; rw [u32_of h0.2.2.2.2.2.1, u32_of h6]; rfl]
  rfl
theorem lifted (os : Os) (started : os.Started) (H : Type) (enc : TypeId × Value → H) :
    ReturnsInHanded {} Try.checked os 4 .any (Rows.hostWritesSpec.pre6 enc Try.prog Try.f4 Rows.hostWritesRow.domain false) (Rows.hostWritesSpec.post enc Try.prog Try.f4 false true false false) :=
  law_row (C := Try.checked) (f := 4) (fn := Try.f4) (ctr := law5_HostWrites.ctr) (gs := [.pair (.int .i64) (.pair (.int .i64) (.pair (.int .i64) (.pair (.int .i64) (.pair (.int .i64) (.pair (.int .u32) .unit))))), .int .u8, .int .u8, .int .u8, .int .u8, .int .u8, .int .u32]) (by kernel_rfl) started (by kernel_rfl) Try.func4
    (ChangeSpec.witness6 (enc := enc) (C := Try.checked) false ⟨#[], #[.agg #[.int .i64 0, .int .i64 0, .int .i64 0, .int .i64 0, .int .i64 0, .int .u32 0], .int .u8 0, .int .u8 0, .int .u8 0, .int .u8 0, .int .u8 0, .int .u32 0], []⟩ 8 (by kernel_rfl) (by kernel_rfl) (by kernel_rfl) (by kernel_rfl))
    rfl rfl rfl (by kernel_rfl) rfl (fun ds h => by match ds, h with | [_, _, _, _, _, _, _], _ => rfl) (by kernel_rfl) (by kernel_rfl) (by kernel_rfl) law5_HostWrites.known.2 true'
theorem proved : Rows.HostWritesSaid :=
  OpenClaim.holds_of_wide 4 Try.f4 rfl rfl rfl rfl rfl rfl rfl ⟨rfl, rfl, rfl, rfl, rfl⟩ rfl rfl rfl rfl rfl (by kernel_rfl) Try.func4 (by kernel_rfl)
    (of_decide_eq_true (by kernel_rfl)) (by unfold Func.isWrapper; first | (rw [if_pos (by decide +kernel)]; kernel_rfl) | (rw [if_neg (by decide +kernel)]; exact ⟨rfl, rfl⟩))
    (fun os started H enc _ => lifted os started H enc)
end Go.Proofs.Ytbcjiicaekfjlaa.HostWrites
