/- sourdine's law TablePlays returns true for every input, and its arguments read behind the call as they read before; its tables are the program's own. -/
import Derived.Test.YtmdnddoiopgboaaDoorCards
import Derived.Test.YtmdnddoiopgboaaDoorTie
import Derived.Test.YtmdnddoiopgboaaDoorPTabP
import Derived.ProofKit
import Derived.WalkKit
import Derived.OpenShut
import Derived.Deep.DeepHandedRow
import Derived.Lib.LaidTab
import Derived.Stop.LaidErr
namespace Go.Proofs.YtmdnddoiopgboaaDoor.TablePlays
open Go.ChangeShapes Go.WideShapes Go.ChangeAt Go.RowKit Go.D Go.D.YtmdnddoiopgboaaDoor
set_option linter.unusedSimpArgs false
set_option linter.unusedVariables false
set_option maxRecDepth 100000

theorem good_int {k : IntKind} {n : Int} (h : good (.int k) n) : k.min ≤ n ∧ n ≤ k.max := by
  have h : (decide (k.min ≤ n) && decide (n ≤ k.max)) = true := h
  simpa using h
theorem own : ownKnob Tryd.prog.godebug = none := by kernel_rfl
theorem g0 : Tryd.prog.globalNamed "math/bits.deBruijn32tab" = some 0 := by kernel_rfl
theorem g1 : Tryd.prog.globalNamed "math/bits.deBruijn64tab" = some 1 := by kernel_rfl
theorem t0 : (Tryd.prog.globals[0]?).map (·.type) = some 60 := by kernel_rfl
theorem t1 : (Tryd.prog.globals[1]?).map (·.type) = some 61 := by kernel_rfl
theorem c60 : Tryd.prog.cellsOf 60 = 32 := by kernel_rfl
theorem c61 : Tryd.prog.cellsOf 61 = 64 := by kernel_rfl
theorem c5 : Tryd.prog.cellsOf 5 = 1 := by kernel_rfl
theorem globs (W : World) (h : laidMetH Tryd.prog Rows.tablePlaysRow.laid W) : GlobOk (Old W) W :=
  globOk_two rfl
    (glob_tab rfl g0 (Lib.tabIs_of_head (zs := ((0 : Int) :: (1 : Int) :: (28 : Int) :: (2 : Int) :: (29 : Int) :: (14 : Int) :: (24 : Int) :: (3 : Int) :: (30 : Int) :: (22 : Int) :: (20 : Int) :: (15 : Int) :: (25 : Int) :: (17 : Int) :: (4 : Int) :: (8 : Int) :: (31 : Int) :: (27 : Int) :: (13 : Int) :: (23 : Int) :: (21 : Int) :: (19 : Int) :: (16 : Int) :: (7 : Int) :: (26 : Int) :: (12 : Int) :: (18 : Int) :: (6 : Int) :: (11 : Int) :: (5 : Int) :: (10 : Int) :: (9 : Int) :: [])) (rest := [("math/bits.deBruijn64tab", Rows.laid_math_bits_deBruijn64tab)]) g0 t0 Tryd.underlying60 Tryd.underlying5 c5 c60 h))
    (glob_tab rfl g1 (Lib.tabIs_of_head (zs := ((0 : Int) :: (1 : Int) :: (56 : Int) :: (2 : Int) :: (57 : Int) :: (49 : Int) :: (28 : Int) :: (3 : Int) :: (61 : Int) :: (58 : Int) :: (42 : Int) :: (50 : Int) :: (38 : Int) :: (29 : Int) :: (17 : Int) :: (4 : Int) :: (62 : Int) :: (47 : Int) :: (59 : Int) :: (36 : Int) :: (45 : Int) :: (43 : Int) :: (51 : Int) :: (22 : Int) :: (53 : Int) :: (39 : Int) :: (33 : Int) :: (30 : Int) :: (24 : Int) :: (18 : Int) :: (12 : Int) :: (5 : Int) :: (63 : Int) :: (55 : Int) :: (48 : Int) :: (27 : Int) :: (60 : Int) :: (41 : Int) :: (37 : Int) :: (16 : Int) :: (46 : Int) :: (35 : Int) :: (44 : Int) :: (21 : Int) :: (52 : Int) :: (32 : Int) :: (23 : Int) :: (11 : Int) :: (54 : Int) :: (26 : Int) :: (40 : Int) :: (15 : Int) :: (34 : Int) :: (20 : Int) :: (31 : Int) :: (10 : Int) :: (25 : Int) :: (14 : Int) :: (19 : Int) :: (9 : Int) :: (13 : Int) :: (8 : Int) :: (7 : Int) :: (6 : Int) :: [])) (rest := []) g1 t1 Tryd.underlying61 Tryd.underlying5 c5 c61 h.tail))
/-- A WORLD FOR THE WITNESS: the settled one, its two tables (blocks 0 and 1) holding what their initialisers lay. -/
def lay0 : Obj → Obj
  | .cells _ t frozen => .cells #[.int .u8 0, .int .u8 1, .int .u8 28, .int .u8 2, .int .u8 29, .int .u8 14, .int .u8 24, .int .u8 3, .int .u8 30, .int .u8 22, .int .u8 20, .int .u8 15, .int .u8 25, .int .u8 17, .int .u8 4, .int .u8 8, .int .u8 31, .int .u8 27, .int .u8 13, .int .u8 23, .int .u8 21, .int .u8 19, .int .u8 16, .int .u8 7, .int .u8 26, .int .u8 12, .int .u8 18, .int .u8 6, .int .u8 11, .int .u8 5, .int .u8 10, .int .u8 9] t frozen
  | o => o
def lay1 : Obj → Obj
  | .cells _ t frozen => .cells #[.int .u8 0, .int .u8 1, .int .u8 56, .int .u8 2, .int .u8 57, .int .u8 49, .int .u8 28, .int .u8 3, .int .u8 61, .int .u8 58, .int .u8 42, .int .u8 50, .int .u8 38, .int .u8 29, .int .u8 17, .int .u8 4, .int .u8 62, .int .u8 47, .int .u8 59, .int .u8 36, .int .u8 45, .int .u8 43, .int .u8 51, .int .u8 22, .int .u8 53, .int .u8 39, .int .u8 33, .int .u8 30, .int .u8 24, .int .u8 18, .int .u8 12, .int .u8 5, .int .u8 63, .int .u8 55, .int .u8 48, .int .u8 27, .int .u8 60, .int .u8 41, .int .u8 37, .int .u8 16, .int .u8 46, .int .u8 35, .int .u8 44, .int .u8 21, .int .u8 52, .int .u8 32, .int .u8 23, .int .u8 11, .int .u8 54, .int .u8 26, .int .u8 40, .int .u8 15, .int .u8 34, .int .u8 20, .int .u8 31, .int .u8 10, .int .u8 25, .int .u8 14, .int .u8 19, .int .u8 9, .int .u8 13, .int .u8 8, .int .u8 7, .int .u8 6] t frozen
  | o => o
noncomputable def laidWorld (os : Os) : World :=
  { World.holding Tryd.prog os ⟨#[], #[], []⟩ with heap := ((World.holding Tryd.prog os ⟨#[], #[], []⟩).heap.modify 0 lay0).modify 1 lay1 }
theorem laid_met (os : Os) : laidMet Tryd.prog Rows.tablePlaysRow.laid ((laidWorld os).forCall (fun _ _ => 0) ⟨#[], #[.int .i64 0, .slice none 0 0, .int .u8 0], []⟩).memory :=
  laidMet_of_run' 8 (by kernel_rfl) (by kernel_rfl)
theorem reads (os : Os) {H : Type} (enc : TypeId × Value → H) : ∃ ds places, DataW.whole enc Tryd.prog ((laidWorld os).forCall (fun _ _ => 0) ⟨#[], #[.int .i64 0, .slice none 0 0, .int .u8 0], []⟩).memory Tryd.f3.params.toList Rows.tablePlaysSpec.vars false (#[.int .i64 0, .slice none 0 0, .int .u8 0] : Array Value).toList 8 = some (ds, [], places) := by
  have h : (DataW.whole enc Tryd.prog ((laidWorld os).forCall (fun _ _ => 0) ⟨#[], #[.int .i64 0, .slice none 0 0, .int .u8 0], []⟩).memory Tryd.f3.params.toList Rows.tablePlaysSpec.vars false (#[.int .i64 0, .slice none 0 0, .int .u8 0] : Array Value).toList 8).map (fun x => x.2.1.length) = some 0 := by kernel_rfl
  rw [Option.map_eq_some_iff] at h
  obtain ⟨⟨ds, gs, places⟩, h1, h2⟩ := h
  obtain rfl : gs = [] := List.length_eq_zero_iff.1 h2
  exact ⟨ds, places, h1⟩
theorem true' (ds : List DVal) (h : Goods [.int .i64, .sl 16 (.pair (.int .u8) (.pair (.int .u32) (.pair (.int .i64) .unit))), .int .u8] ds) : (law23_TablePlays.ctr.run ds).val = some [⟨.bool, true⟩] := by
  obtain _ | ⟨x0, h0, h⟩ := h
  obtain _ | ⟨x1, h1, h⟩ := h
  obtain _ | ⟨x2, h2, h⟩ := h
  obtain _ | ⟨h⟩ := h
  obtain ⟨a0, b0⟩ := good_int h0
  obtain ⟨a2, b2⟩ := good_int h2
  show ((Cmd.guard (law23_TablePlays.pre x0 x1 x2) (.ret [⟨.bool, law23_TablePlays x0 x1 x2⟩])).val : Option (List DVal)) = _
  rw [show law23_TablePlays.pre x0 x1 x2 = true from (plays_true x0 x1 x2).1]
  rw [law23_TablePlays.true x0 x1 x2]
  rfl
theorem lifted (os : Os) (started : os.Started) (H : Type) (enc : TypeId × Value → H) (F : Stop.Interp) :
    ReturnsInHanded {} Tryd.checked os 3 .any ((OpenSpec.ofChange Rows.tablePlaysSpec).preRow enc Tryd.prog Tryd.f3 Rows.tablePlaysRow.domain false Rows.tablePlaysRow.laid) (((OpenSpec.ofChange Rows.tablePlaysSpec).at F).post enc Tryd.prog Tryd.f3 false true false false) := by
  obtain ⟨ds, places, hx⟩ := reads os enc
  exact law_row_laid (C := Tryd.checked) (f := 3) (fn := Tryd.f3) (s := Rows.tablePlaysSpec) (G := F) (ctr := law23_TablePlays.ctr) (gs := [.int .i64, .sl 16 (.pair (.int .u8) (.pair (.int .u32) (.pair (.int .i64) .unit))), .int .u8]) own started (by kernel_rfl) Tryd.func3
    (witness_row_at (enc := enc) (C := Tryd.checked) false (laidWorld os) #[.int .i64 0, .slice none 0 0, .int .u8 0] rfl (by kernel_rfl) (by kernel_rfl) (by kernel_rfl)
      (OpenSpec.preRow_of_cond 8 hx (by kernel_rfl) (fun k hk => by cases hk) (by kernel_rfl) (laid_met os)))
    rfl rfl rfl (by kernel_rfl) rfl (fun ds h => by match ds, h with | [_, _, _], _ => rfl) (by kernel_rfl) (by kernel_rfl) (by kernel_rfl) (fun W h => globs W h) law23_TablePlays.known.2 true'
theorem said : Rows.TablePlaysSaid :=
  OpenClaim.holds_of_cond 3 Tryd.f3 rfl rfl rfl rfl rfl rfl rfl ⟨rfl, rfl, rfl, rfl, rfl⟩ rfl rfl rfl rfl rfl (by kernel_rfl) Tryd.func3 (by kernel_rfl)
    (of_decide_eq_true (by kernel_rfl)) (by unfold Func.isWrapper; first | (rw [if_pos (by decide +kernel)]; kernel_rfl) | (rw [if_neg (by decide +kernel)]; exact ⟨rfl, rfl⟩))
    (fun os started H enc _ F => by rw [OpenClaim.pre_eq_preRow]; exact lifted os started H enc F)
theorem plain (f : FuncId) (fn : Func) (hf : Tryd.pinned.checked.prog.funcNamed "sourdine/sourdinelaw23.TablePlays" = some f) (hfn : Tryd.pinned.checked.prog.funcs[f]? = some fn) :
    false = Tryd.pinned.checked.prog.looks [] ∧ ∀ (j : Nat) t, fn.params[j]? = some t → Tryd.pinned.checked.prog.wantsStandIn t = false := by
  obtain rfl : f = 3 := Option.some.inj ((show Tryd.prog.funcNamed "sourdine/sourdinelaw23.TablePlays" = some 3 by kernel_rfl).symm.trans hf) |>.symm
  obtain rfl : fn = Tryd.f3 := (Option.some.inj (Tryd.func3.symm.trans hfn)).symm
  refine ⟨by kernel_rfl, fun j t ht => ?_⟩
  rw [Tryd.params3] at ht
  have ht : t = 3 ∨ t = 22 ∨ t = 5 := by
    have := Array.mem_of_getElem? ht
    simpa using this
  rcases ht with rfl | rfl | rfl
  · exact (show Tryd.prog.wantsStandIn 3 = false by kernel_rfl)
  · exact (show Tryd.prog.wantsStandIn 22 = false by kernel_rfl)
  · exact (show Tryd.prog.wantsStandIn 5 = false by kernel_rfl)
theorem proved : Rows.TablePlaysCardSaid :=
  Claim7.holds_tied_plain_at .later [] _ _ _ _ said (fun _ h => by cases h) (by kernel_rfl) (fun _ h => by cases h) tablePlays_row_tie rfl ⟨rfl, rfl⟩ (by kernel_rfl) rfl plain (by kernel_rfl)
end Go.Proofs.YtmdnddoiopgboaaDoor.TablePlays
