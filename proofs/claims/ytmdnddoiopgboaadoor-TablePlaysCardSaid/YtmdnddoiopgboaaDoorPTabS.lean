/- The law of the tables' sizes, in plain Lean. -/
import Derived.Test.YtmdnddoiopgboaaDoorPTabD
namespace Go.D.YtmdnddoiopgboaaDoor
open Go.Proofs Tab
set_option linter.unusedVariables false
set_option linter.unusedSimpArgs false
set_option maxRecDepth 100000
theorem eta3 {α β γ : Type} (x : α × β × γ) : (x.1, x.2.1, x.2.2) = x := rfl
theorem eta4 {α β γ δ : Type} (x : α × β × γ × δ) : (x.1, x.2.1, x.2.2.1, x.2.2.2) = x := rfl
theorem size_and {N : Nat} (h : Size N) : (bitop .and .i64 (N : Int) (IntKind.wrap .i64 ((N : Int) - 1)) != (0 : Int)) = false := by
  rcases h.cases with rfl | rfl | rfl | rfl | rfl | rfl | rfl | rfl | rfl | rfl <;> kernel_rfl
theorem sizes_round {R : Type} {L : List Int} (hL : L.length = 4) (kret : Bool → Option R) (kexit : Option R) (next : (List Int) × Int × Int → Option R) {i : Nat} (hi : i < 4) : law23_TableSizes.R0 kret kexit (L, 4, (i : Int)) next = next (L, 4, ((i + 1 : Nat) : Int)) := by
  rw [law23_TableSizes.R0_eq, law23_TableSizes.round0]
  obtain ⟨h1, h2⟩ := new_t (L.getD i 0)
  obtain ⟨h3, h4⟩ := h2.places
  have hs := size_of (L.getD i 0)
  have hz : ((tsz (L.getD i 0)).toNat : Int) = tsz (L.getD i 0) := by have := tsz_mem (L.getD i 0); omega
  simp only [in_range (show i < 4 by omega), hL, Int.toNat_natCast, cond_true, h1, eta3, h3, h4, pl_length, size_and hs]
  rw [show ref23_Size (L.getD i 0) = tsz (L.getD i 0) from rfl, hz]
  have h8 : ¬ tsz (L.getD i 0) < 8 := by have := tsz_mem (L.getD i 0); omega
  rw [decide_eq_true (show (i : Int) < 4 by omega), bne_self_eq_false, decide_eq_false h8, wrap64 (by omega) (by omega)]
  simp only [cond_true, cond_false, Bool.or_self]
  first | rfl | (simp; rfl)
theorem sizes_true (a0 a1 : Int) : law23_TableSizes.pre a0 a1 = true ∧ law23_TableSizes a0 a1 = true := by
  refine law23_TableSizes.of_opt _ _ ?_
  unfold law23_TableSizes.opt law23_TableSizes.tree law23_TableSizes.loop0
  generalize hL : [iminmax false a0 (1048576 : Int), IntKind.wrap IntKind.i64 (Int.tmod a1 (5000 : Int)), (8 : Int), (9 : Int)] = L
  have hl : L.length = 4 := by rw [← hL]; rfl
  rw [show (0 : Int) = ((0 : Nat) : Int) from rfl, lp_succ, sizes_round hl _ _ _ (by omega), lp_succ, sizes_round hl _ _ _ (by omega), lp_succ, sizes_round hl _ _ _ (by omega), lp_succ, sizes_round hl _ _ _ (by omega), lp_succ, law23_TableSizes.R0_eq, law23_TableSizes.round0]
  rfl
theorem law23_TableSizes.true (a0 a1 : Int) : law23_TableSizes a0 a1 = true := (sizes_true a0 a1).2
end Go.D.YtmdnddoiopgboaaDoor
