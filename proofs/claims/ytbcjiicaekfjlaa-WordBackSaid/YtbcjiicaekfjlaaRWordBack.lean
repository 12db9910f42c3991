/- sourdine's law WordBack returns true for every input, and its arguments read behind the call as they read before. -/
import Derived.Test.YtbcjiicaekfjlaaRows
import Derived.Test.YtbcjiicaekfjlaaLback1
import Derived.ProofKit
namespace Go.Proofs.Ytbcjiicaekfjlaa.WordBack
open Go.ChangeShapes Go.WideShapes Go.ChangeAt Go.RowKit Go.D Go.D.Ytbcjiicaekfjlaa
set_option linter.unusedSimpArgs false
set_option linter.unusedVariables false
set_option maxRecDepth 100000

theorem good_int {k : IntKind} {n : Int} (h : good (.int k) n) : k.min ≤ n ∧ n ≤ k.max := by
  have h : (decide (k.min ≤ n) && decide (n ≤ k.max)) = true := h
  simpa using h
theorem u32_of {n : Int} (h : good (.int .u32) n) : decide (0 ≤ n ∧ n < 4294967296) = true := by
  have := good_int h
  exact decide_eq_true ⟨this.1, by have : n ≤ 4294967295 := this.2; omega⟩
theorem u8_of {n : Int} (h : good (.int .u8) n) : decide (0 ≤ n ∧ n < 256) = true := by
  have := good_int h
  exact decide_eq_true ⟨this.1, by have : n ≤ 255 := this.2; omega⟩
theorem true' (ds : List DVal) (h : Goods [.int .u32, .int .u32, .int .u8] ds) : (law1_WordBack.ctr.run ds).val = some [⟨.bool, true⟩] := by
  obtain _ | ⟨x0, h0, h⟩ := h
  obtain _ | ⟨x1, h1, h⟩ := h
  obtain _ | ⟨x2, h2, h⟩ := h
  obtain _ | ⟨h⟩ := h
  obtain ⟨a0, b0⟩ := good_int h0
  obtain ⟨a1, b1⟩ := good_int h1
  obtain ⟨a2, b2⟩ := good_int h2
  show ((Cmd.guard (law1_WordBack.pre x0 x1 x2) (.ret [⟨.bool, law1_WordBack x0 x1 x2⟩])).val : Option (List DVal)) = _
  rw [show law1_WordBack.pre x0 x1 x2 = true from by unfold law1_WordBack.pre; rw [u32_of h0, u32_of h1, u8_of h2]; rfl]
  rfl
theorem lifted (os : Os) (started : os.Started) (H : Type) (enc : TypeId × Value → H) :
    ReturnsInHanded {} Try.checked os 11 .any (Rows.wordBackSpec.pre6 enc Try.prog Try.f11 Rows.wordBackRow.domain false) (Rows.wordBackSpec.post enc Try.prog Try.f11 false true false false) :=
  law_row (C := Try.checked) (f := 11) (fn := Try.f11) (ctr := law1_WordBack.ctr) (gs := [.int .u32, .int .u32, .int .u8]) (by kernel_rfl) started (by kernel_rfl) Try.func11
    (ChangeSpec.witness6 (enc := enc) (C := Try.checked) false ⟨#[], #[.int .u32 0, .int .u32 0, .int .u8 0], []⟩ 8 (by kernel_rfl) (by kernel_rfl) (by kernel_rfl) (by kernel_rfl))
    rfl rfl rfl (by kernel_rfl) rfl (fun ds h => by match ds, h with | [_, _, _], _ => rfl) (by kernel_rfl) (by kernel_rfl) (by kernel_rfl) law1_WordBack.known.2 true'
theorem proved : Rows.WordBackSaid :=
  OpenClaim.holds_of_wide 11 Try.f11 rfl rfl rfl rfl rfl rfl rfl ⟨rfl, rfl, rfl, rfl, rfl⟩ rfl rfl rfl rfl rfl (by kernel_rfl) Try.func11 (by kernel_rfl)
    (of_decide_eq_true (by kernel_rfl)) (by unfold Func.isWrapper; first | (rw [if_pos (by decide +kernel)]; kernel_rfl) | (rw [if_neg (by decide +kernel)]; exact ⟨rfl, rfl⟩))
    (fun os started H enc _ => lifted os started H enc)
end Go.Proofs.Ytbcjiicaekfjlaa.WordBack
