/- sourdine's law HostReads returns true for every input, and its arguments read behind the call as they read before. -/
import Derived.Test.YtbcjiicaekfjlaaRows
import Derived.Test.YtbcjiicaekfjlaaLreads5
import Derived.ProofKit
namespace Go.Proofs.Ytbcjiicaekfjlaa.HostReads
open Go.ChangeShapes Go.WideShapes Go.ChangeAt Go.RowKit Go.D Go.D.Ytbcjiicaekfjlaa
set_option linter.unusedSimpArgs false
set_option linter.unusedVariables false
set_option maxRecDepth 100000

theorem good_int {k : IntKind} {n : Int} (h : good (.int k) n) : k.min ≤ n ∧ n ≤ k.max := by
  have h : (decide (k.min ≤ n) && decide (n ≤ k.max)) = true := h
  simpa using h
theorem u8B_of {n : Int} (h : good (.int .u8) n) : u8B n = true := by
  have := good_int h
  exact decide_eq_true ⟨this.1, by have : n ≤ 255 := this.2; omega⟩
theorem u8s_of {b : Nat} {l : List Int} (h : good (.sl b (.int .u8)) l) : l.all u8B = true :=
  List.all_eq_true.2 fun y hy => u8B_of (h.2 y hy)
theorem true' (ds : List DVal) (h : Goods [.sl 1 (.int .u8), .int .u8, .int .u8, .int .u8, .int .u8, .int .u8, .int .u32, .int .u8, .int .u8] ds) : (law5_HostReads.ctr.run ds).val = some [⟨.bool, true⟩] := by
  obtain _ | ⟨x0, h0, h⟩ := h
  obtain _ | ⟨x1, h1, h⟩ := h
  obtain _ | ⟨x2, h2, h⟩ := h
  obtain _ | ⟨x3, h3, h⟩ := h
  obtain _ | ⟨x4, h4, h⟩ := h
  obtain _ | ⟨x5, h5, h⟩ := h
  obtain _ | ⟨x6, h6, h⟩ := h
  obtain _ | ⟨x7, h7, h⟩ := h
  obtain _ | ⟨x8, h8, h⟩ := h
  obtain _ | ⟨h⟩ := h
  obtain ⟨a1, b1⟩ := good_int h1
  obtain ⟨a2, b2⟩ := good_int h2
  obtain ⟨a3, b3⟩ := good_int h3
  obtain ⟨a4, b4⟩ := good_int h4
  obtain ⟨a5, b5⟩ := good_int h5
  obtain ⟨a6, b6⟩ := good_int h6
  obtain ⟨a7, b7⟩ := good_int h7
  obtain ⟨a8, b8⟩ := good_int h8
  show ((Cmd.guard (law5_HostReads.pre x0 x1 x2 x3 x4 x5 x6 x7 x8) (.ret [⟨.bool, law5_HostReads x0 x1 x2 x3 x4 x5 x6 x7 x8⟩])).val : Option (List DVal)) = _
  rw [show law5_HostReads.pre x0 x1 x2 x3 x4 x5 x6 x7 x8 = true from by unfold law5_HostReads.pre; rw [u8s_of h0, u8B_of h1, u8B_of h2, u8B_of h3, u8B_of h4, u8B_of h5, u8B_of h7, u8B_of h8]; rfl]
  rfl
theorem lifted (os : Os) (started : os.Started) (H : Type) (enc : TypeId × Value → H) :
    ReturnsInHanded {} Try.checked os 5 .any (Rows.hostReadsSpec.pre6 enc Try.prog Try.f5 Rows.hostReadsRow.domain false) (Rows.hostReadsSpec.post enc Try.prog Try.f5 false true false false) :=
  law_row (C := Try.checked) (f := 5) (fn := Try.f5) (ctr := law5_HostReads.ctr) (gs := [.sl 1 (.int .u8), .int .u8, .int .u8, .int .u8, .int .u8, .int .u8, .int .u32, .int .u8, .int .u8]) (by kernel_rfl) started (by kernel_rfl) Try.func5
    (ChangeSpec.witness6 (enc := enc) (C := Try.checked) false ⟨#[], #[.slice none 0 0, .int .u8 0, .int .u8 0, .int .u8 0, .int .u8 0, .int .u8 0, .int .u32 0, .int .u8 0, .int .u8 0], []⟩ 8 (by kernel_rfl) (by kernel_rfl) (by kernel_rfl) (by kernel_rfl))
    rfl rfl rfl (by kernel_rfl) rfl (fun ds h => by match ds, h with | [_, _, _, _, _, _, _, _, _], _ => rfl) (by kernel_rfl) (by kernel_rfl) (by kernel_rfl) law5_HostReads.known.2 true'
theorem proved : Rows.HostReadsSaid :=
  OpenClaim.holds_of_wide 5 Try.f5 rfl rfl rfl rfl rfl rfl rfl ⟨rfl, rfl, rfl, rfl, rfl⟩ rfl rfl rfl rfl rfl (by kernel_rfl) Try.func5 (by kernel_rfl)
    (of_decide_eq_true (by kernel_rfl)) (by unfold Func.isWrapper; first | (rw [if_pos (by decide +kernel)]; kernel_rfl) | (rw [if_neg (by decide +kernel)]; exact ⟨rfl, rfl⟩))
    (fun os started H enc _ => lifted os started H enc)
end Go.Proofs.Ytbcjiicaekfjlaa.HostReads
