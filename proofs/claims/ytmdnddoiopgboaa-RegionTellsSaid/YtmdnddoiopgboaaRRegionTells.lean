/- sourdine's law RegionTells returns true for every input, and its arguments read behind the call as they read before. -/
import Derived.Test.YtmdnddoiopgboaaRows
import Derived.Test.YtmdnddoiopgboaaLtells3
import Derived.ProofKit
namespace Go.Proofs.Ytmdnddoiopgboaa.RegionTells
open Go.ChangeShapes Go.WideShapes Go.ChangeAt Go.RowKit Go.D Go.D.Ytmdnddoiopgboaa
set_option linter.unusedSimpArgs false
set_option linter.unusedVariables false
set_option maxRecDepth 100000

theorem good_int {k : IntKind} {n : Int} (h : good (.int k) n) : k.min ≤ n ∧ n ≤ k.max := by
  have h : (decide (k.min ≤ n) && decide (n ≤ k.max)) = true := h
  simpa using h
theorem u32B_of {n : Int} (h : good (.int .u32) n) : decide (0 ≤ n ∧ n < 4294967296) = true := by
  have := good_int h
  exact decide_eq_true ⟨this.1, by have : n ≤ 4294967295 := this.2; omega⟩
theorem u32s_of {b : Nat} {l : List Int} (h : good (.sl b (.int .u32)) l) : u32s l = true := by
  unfold u32s
  exact List.all_eq_true.2 fun y hy => u32B_of (h.2 y hy)
theorem reach_le {n b : Nat} (hb : 1 ≤ b) (h : n * b ≤ reachBytes) : n ≤ 4611686018427387903 := by
  have h1 : n * 1 ≤ n * b := Nat.mul_le_mul_left n hb
  have h2 : reachBytes ≤ 4611686018427387903 := by decide
  omega
theorem regB_of {x : Reg} (h : good (.pair (.int .u32) (.pair (.int .u32) (.pair .bool (.pair .bool (.pair .bool (.pair .bool (.pair (.sl 1 (.int .u8)) .unit))))))) x) : regB x = true := by
  obtain ⟨h1, h2, _, _, _, _, h3, _⟩ := h
  unfold regB
  have e1 := of_decide_eq_true (u32B_of h1)
  have e2 := of_decide_eq_true (u32B_of h2)
  rw [decide_eq_true (show (_ ∧ _) ∧ _ from ⟨e1, e2⟩), Nat.ble_eq_true_of_le (reach_le (Nat.le_refl 1) h3.1)]
  rfl
theorem raw_of {l : List Reg} (h : good (.sl 40 (.pair (.int .u32) (.pair (.int .u32) (.pair .bool (.pair .bool (.pair .bool (.pair .bool (.pair (.sl 1 (.int .u8)) .unit)))))))) l) : Nat.ble l.length 4611686018427387903 = true ∧ l.all regB = true :=
  ⟨Nat.ble_eq_true_of_le (reach_le (by decide) h.1), List.all_eq_true.2 fun y hy => regB_of (h.2 y hy)⟩
theorem nn_of {k : IntKind} {n : Int} (hk : k.min = 0) (h : good (.int k) n) : 0 ≤ n := by
  have := (good_int h).1
  rw [hk] at this
  exact this
theorem true' (ds : List DVal) (h : Goods [.sl 40 (.pair (.int .u32) (.pair (.int .u32) (.pair .bool (.pair .bool (.pair .bool (.pair .bool (.pair (.sl 1 (.int .u8)) .unit))))))), .sl 4 (.arr 4 (.int .u8)), .sl 4 (.int .u32), .int .u32, .int .u32, .bool, .int .u8] ds) : (law3_RegionTells.ctr.run ds).val = some [⟨.bool, true⟩] := by
  obtain _ | ⟨x0, h0, h⟩ := h
  obtain _ | ⟨x1, h1, h⟩ := h
  obtain _ | ⟨x2, h2, h⟩ := h
  obtain _ | ⟨x3, h3, h⟩ := h
  obtain _ | ⟨x4, h4, h⟩ := h
  obtain _ | ⟨x5, h5, h⟩ := h
  obtain _ | ⟨x6, h6, h⟩ := h
  obtain _ | ⟨h⟩ := h
  obtain ⟨a3, b3⟩ := good_int h3
  obtain ⟨a4, b4⟩ := good_int h4
  obtain ⟨a6, b6⟩ := good_int h6
  show ((Cmd.guard (law3_RegionTells.pre x0 x1 x2 x3 x4 x5 x6) (.ret [⟨.bool, law3_RegionTells x0 x1 x2 x3 x4 x5 x6⟩])).val : Option (List DVal)) = _
  rw [show law3_RegionTells.pre x0 x1 x2 x3 x4 x5 x6 = true from by unfold law3_RegionTells.pre; rw [(raw_of h0).1, (raw_of h0).2, u32s_of h2, decide_eq_true ⟨nn_of rfl h3, nn_of rfl h6⟩]; rfl]
  rfl
theorem lifted (os : Os) (started : os.Started) (H : Type) (enc : TypeId × Value → H) :
    ReturnsInHanded {} Try.checked os 6 .any (Rows.regionTellsSpec.pre6 enc Try.prog Try.f6 Rows.regionTellsRow.domain false) (Rows.regionTellsSpec.post enc Try.prog Try.f6 false true false false) :=
  law_row (C := Try.checked) (f := 6) (fn := Try.f6) (ctr := law3_RegionTells.ctr) (gs := [.sl 40 (.pair (.int .u32) (.pair (.int .u32) (.pair .bool (.pair .bool (.pair .bool (.pair .bool (.pair (.sl 1 (.int .u8)) .unit))))))), .sl 4 (.arr 4 (.int .u8)), .sl 4 (.int .u32), .int .u32, .int .u32, .bool, .int .u8]) (by kernel_rfl) started (by kernel_rfl) Try.func6
    (ChangeSpec.witness6 (enc := enc) (C := Try.checked) false ⟨#[], #[.slice none 0 0, .slice none 0 0, .slice none 0 0, .int .u32 0, .int .u32 0, .bool false, .int .u8 0], []⟩ 8 (by kernel_rfl) (by kernel_rfl) (by kernel_rfl) (by kernel_rfl))
    rfl rfl rfl (by kernel_rfl) rfl (fun ds h => by match ds, h with | [_, _, _, _, _, _, _], _ => rfl) (by kernel_rfl) (by kernel_rfl) (by kernel_rfl) law3_RegionTells.known.2 true'
theorem proved : Rows.RegionTellsSaid :=
  OpenClaim.holds_of_wide 6 Try.f6 rfl rfl rfl rfl rfl rfl rfl ⟨rfl, rfl, rfl, rfl, rfl⟩ rfl rfl rfl rfl rfl (by kernel_rfl) Try.func6 (by kernel_rfl)
    (of_decide_eq_true (by kernel_rfl)) (by unfold Func.isWrapper; first | (rw [if_pos (by decide +kernel)]; kernel_rfl) | (rw [if_neg (by decide +kernel)]; exact ⟨rfl, rfl⟩))
    (fun os started H enc _ => lifted os started H enc)
end Go.Proofs.Ytmdnddoiopgboaa.RegionTells
