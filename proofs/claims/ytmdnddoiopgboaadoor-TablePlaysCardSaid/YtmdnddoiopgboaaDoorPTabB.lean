/- Tables of places: what homes are, where the two programs find keys. -/
import Derived.Test.YtmdnddoiopgboaaDoorLtab3
import Derived.Test.YtmdnddoiopgboaaDoorPTabA
namespace Go.D.YtmdnddoiopgboaaDoor
open Go.Proofs Tab
set_option linter.unusedVariables false
set_option linter.unusedSimpArgs false
set_option maxRecDepth 100000

theorem wrap64 {x : Int} (h : -9223372036854775808 ≤ x) (h2 : x < 9223372036854775808) : IntKind.wrap .i64 x = x := by rw [IntKind.wrap_i64]; omega
theorem shr_u64' {x : Int} {y : Nat} (hy : y ≤ 64) : shr .u64 x y = x / 2 ^ y := by
  show x.fdiv (2 ^ (min ((y : Int).toNat) 64)) = _
  rw [show min ((y : Int).toNat) 64 = y by omega, Int.fdiv_eq_ediv_of_nonneg _ (Int.le_of_lt (Int.pow_pos (by omega)))]

/-- a key's home -/
def hm (N : Nat) (k : Int) : Nat := (k * 2654435761 % 4294967296).toNat / 2 ^ (32 - Nat.log2 N)
def Size (N : Nat) : Prop := ∃ n, tsz n = (N : Int)
theorem Size.cases {N : Nat} (h : Size N) : N = 8 ∨ N = 16 ∨ N = 32 ∨ N = 64 ∨ N = 128 ∨ N = 256 ∨ N = 512 ∨ N = 1024 ∨ N = 2048 ∨ N = 4096 := by
  obtain ⟨n, h⟩ := h
  have := tsz_mem n
  omega
theorem Size.pos {N : Nat} (h : Size N) : 0 < N := by have := h.cases; omega
theorem Size.le {N : Nat} (h : Size N) : N ≤ 4096 := by have := h.cases; omega
theorem Size.fix {N : Nat} (h : Size N) : tsz (N : Int) = N := by
  rcases h.cases with rfl | rfl | rfl | rfl | rfl | rfl | rfl | rfl | rfl | rfl <;> kernel_rfl
theorem hm_lt {N : Nat} (h : Size N) (k : Int) : hm N k < N := by
  have hx : (k * 2654435761 % 4294967296).toNat < 4294967296 := by omega
  unfold hm
  generalize (k * 2654435761 % 4294967296).toNat = x at hx
  rcases h.cases with rfl | rfl | rfl | rfl | rfl | rfl | rfl | rfl | rfl | rfl
  · rw [show 2 ^ (32 - Nat.log2 8) = 536870912 from by kernel_rfl]; omega
  · rw [show 2 ^ (32 - Nat.log2 16) = 268435456 from by kernel_rfl]; omega
  · rw [show 2 ^ (32 - Nat.log2 32) = 134217728 from by kernel_rfl]; omega
  · rw [show 2 ^ (32 - Nat.log2 64) = 67108864 from by kernel_rfl]; omega
  · rw [show 2 ^ (32 - Nat.log2 128) = 33554432 from by kernel_rfl]; omega
  · rw [show 2 ^ (32 - Nat.log2 256) = 16777216 from by kernel_rfl]; omega
  · rw [show 2 ^ (32 - Nat.log2 512) = 8388608 from by kernel_rfl]; omega
  · rw [show 2 ^ (32 - Nat.log2 1024) = 4194304 from by kernel_rfl]; omega
  · rw [show 2 ^ (32 - Nat.log2 2048) = 2097152 from by kernel_rfl]; omega
  · rw [show 2 ^ (32 - Nat.log2 4096) = 1048576 from by kernel_rfl]; omega
theorem hm_shr (k : Int) {b N : Nat} (hb : Nat.log2 N = b) (h2 : b ≤ 32) (h3 : 1 ≤ b) (r : Int) (hr : r = (32 - b : Nat)) :
    IntKind.wrap .i64 (shr .u32 (IntKind.wrap .u32 (k * 2654435761)) r) = ((hm N k : Nat) : Int) ∧ IntKind.wrap .i64 (shr .u64 (IntKind.wrap .u64 (IntKind.wrap .u32 (k * 2654435761))) r) = ((hm N k : Nat) : Int) := by
  have hx0 : 0 ≤ k * 2654435761 % 4294967296 := Int.emod_nonneg _ (by omega)
  have hx1 : k * 2654435761 % 4294967296 < 4294967296 := Int.emod_lt_of_pos _ (by omega)
  have hle : ∀ c : Nat, (k * 2654435761 % 4294967296) / 2 ^ c = (((k * 2654435761 % 4294967296).toNat / 2 ^ c : Nat) : Int) := fun c => by
    rw [Int.natCast_ediv, Int.toNat_of_nonneg hx0, Int.natCast_pow]
    rfl
  have hlt : ∀ c : Nat, (k * 2654435761 % 4294967296).toNat / 2 ^ c ≤ 4294967296 := fun c => Nat.le_trans (Nat.div_le_self _ _) (by omega)
  subst hr
  rw [show IntKind.wrap .u32 (k * 2654435761) = k * 2654435761 % 4294967296 from by rw [IntKind.wrap_u32]]
  rw [show IntKind.wrap .u64 (k * 2654435761 % 4294967296) = k * 2654435761 % 4294967296 from by rw [IntKind.wrap_u64]; omega]
  rw [shr_u32 (by omega), shr_u64' (by omega), hle, hm, hb]
  have := hlt (32 - b)
  generalize (k * 2654435761 % 4294967296).toNat / 2 ^ (32 - b) = q at this
  exact ⟨wrap64 (by omega) (by omega), wrap64 (by omega) (by omega)⟩
theorem table_Home_opt (k s : Int) : table_Home.opt k s = some ((hm (tsz s).toNat k : Nat) : Int) := by
  unfold table_Home.opt table_Home.tree
  rw [show table_width s = tsz s from rfl]
  rcases tsz_mem s with e | e | e | e | e | e | e | e | e | e <;> rw [e]
  · exact Eq.trans (by kernel_rfl) (congrArg some (hm_shr k (b := 3) (N := 8) (by kernel_rfl) (by omega) (by omega) 29 rfl).1)
  · exact Eq.trans (by kernel_rfl) (congrArg some (hm_shr k (b := 4) (N := 16) (by kernel_rfl) (by omega) (by omega) 28 rfl).1)
  · exact Eq.trans (by kernel_rfl) (congrArg some (hm_shr k (b := 5) (N := 32) (by kernel_rfl) (by omega) (by omega) 27 rfl).1)
  · exact Eq.trans (by kernel_rfl) (congrArg some (hm_shr k (b := 6) (N := 64) (by kernel_rfl) (by omega) (by omega) 26 rfl).1)
  · exact Eq.trans (by kernel_rfl) (congrArg some (hm_shr k (b := 7) (N := 128) (by kernel_rfl) (by omega) (by omega) 25 rfl).1)
  · exact Eq.trans (by kernel_rfl) (congrArg some (hm_shr k (b := 8) (N := 256) (by kernel_rfl) (by omega) (by omega) 24 rfl).1)
  · exact Eq.trans (by kernel_rfl) (congrArg some (hm_shr k (b := 9) (N := 512) (by kernel_rfl) (by omega) (by omega) 23 rfl).1)
  · exact Eq.trans (by kernel_rfl) (congrArg some (hm_shr k (b := 10) (N := 1024) (by kernel_rfl) (by omega) (by omega) 22 rfl).1)
  · exact Eq.trans (by kernel_rfl) (congrArg some (hm_shr k (b := 11) (N := 2048) (by kernel_rfl) (by omega) (by omega) 21 rfl).1)
  · exact Eq.trans (by kernel_rfl) (congrArg some (hm_shr k (b := 12) (N := 4096) (by kernel_rfl) (by omega) (by omega) 20 rfl).1)
theorem ref23_Home_opt (k s : Int) : ref23_Home.opt k s = some ((hm (tsz s).toNat k : Nat) : Int) := by
  unfold ref23_Home.opt ref23_Home.tree ref23_Home.loop0
  rw [if_pos rfl]
  rcases tsz_mem s with e | e | e | e | e | e | e | e | e | e <;> rw [e]
  · exact Eq.trans (by kernel_rfl) (congrArg some (hm_shr k (b := 3) (N := 8) (by kernel_rfl) (by omega) (by omega) 29 rfl).2)
  · exact Eq.trans (by kernel_rfl) (congrArg some (hm_shr k (b := 4) (N := 16) (by kernel_rfl) (by omega) (by omega) 28 rfl).2)
  · exact Eq.trans (by kernel_rfl) (congrArg some (hm_shr k (b := 5) (N := 32) (by kernel_rfl) (by omega) (by omega) 27 rfl).2)
  · exact Eq.trans (by kernel_rfl) (congrArg some (hm_shr k (b := 6) (N := 64) (by kernel_rfl) (by omega) (by omega) 26 rfl).2)
  · exact Eq.trans (by kernel_rfl) (congrArg some (hm_shr k (b := 7) (N := 128) (by kernel_rfl) (by omega) (by omega) 25 rfl).2)
  · exact Eq.trans (by kernel_rfl) (congrArg some (hm_shr k (b := 8) (N := 256) (by kernel_rfl) (by omega) (by omega) 24 rfl).2)
  · exact Eq.trans (by kernel_rfl) (congrArg some (hm_shr k (b := 9) (N := 512) (by kernel_rfl) (by omega) (by omega) 23 rfl).2)
  · exact Eq.trans (by kernel_rfl) (congrArg some (hm_shr k (b := 10) (N := 1024) (by kernel_rfl) (by omega) (by omega) 22 rfl).2)
  · exact Eq.trans (by kernel_rfl) (congrArg some (hm_shr k (b := 11) (N := 2048) (by kernel_rfl) (by omega) (by omega) 21 rfl).2)
  · exact Eq.trans (by kernel_rfl) (congrArg some (hm_shr k (b := 12) (N := 4096) (by kernel_rfl) (by omega) (by omega) 20 rfl).2)

/-! ### the two tables' places -/
abbrev En := Int × Int × Bool × Unit
def nilE : En := (0, 0, false, ())
def slE (x : En) : Option (Int × Int) := if x.2.2.1 then some (x.1, x.2.1) else none
def aT (l : List En) : Slo := fun i => slE (l.getD i nilE)
def aR (w : List Bool × List Int × List Int × Unit) : Slo := fun i => if w.1.getD i false then some (w.2.1.getD i 0, w.2.2.1.getD i 0) else none
theorem aT_none {l : List En} {i : Nat} (h : aT l i = none) : (l.getD i nilE).2.2.1 = false := by
  unfold aT slE at h
  split at h
  · cases h
  · rename_i hx; simpa using hx
theorem aT_some {l : List En} {i : Nat} {y : Int × Int} (h : aT l i = some y) : l.getD i nilE = (y.1, y.2, true, ()) := by
  unfold aT slE at h
  split at h
  · rename_i hx
    cases h
    generalize l.getD i nilE = x at hx
    obtain ⟨a, b, c, u⟩ := x
    simp only at hx
    rw [hx]
  · cases h
theorem aT_set {l : List En} {i : Nat} (hi : i < l.length) (x : En) : aT (l.set i x) = upd (aT l) i (slE x) := by
  funext j
  unfold aT upd
  simp only [List.getD_eq_getElem?_getD]
  by_cases e : j = i
  · subst e
    rw [List.getElem?_set_self hi, if_pos rfl]
    rfl
  · rw [List.getElem?_set_ne (Ne.symm e), if_neg e]
theorem aR_none {w : List Bool × List Int × List Int × Unit} {i : Nat} (h : aR w i = none) : w.1.getD i false = false := by
  unfold aR at h
  split at h
  · cases h
  · rename_i hx; simpa using hx
theorem aR_some {w : List Bool × List Int × List Int × Unit} {i : Nat} {y : Int × Int} (h : aR w i = some y) : w.1.getD i false = true ∧ w.2.1.getD i 0 = y.1 ∧ w.2.2.1.getD i 0 = y.2 := by
  unfold aR at h
  split at h
  · rename_i hx; cases h; exact ⟨hx, rfl, rfl⟩
  · cases h
theorem aR_put {a : List Bool} {b c : List Int} {i : Nat} (h1 : i < a.length) (h2 : i < b.length) (h3 : i < c.length) (k v : Int) : aR (a.set i true, b.set i k, c.set i v, ()) = upd (aR (a, b, c, ())) i (some (k, v)) := by
  funext j
  unfold aR upd
  simp only [List.getD_eq_getElem?_getD]
  by_cases e : j = i
  · subst e
    rw [List.getElem?_set_self h1, List.getElem?_set_self h2, List.getElem?_set_self h3, if_pos rfl]
    rfl
  · rw [List.getElem?_set_ne (Ne.symm e), List.getElem?_set_ne (Ne.symm e), List.getElem?_set_ne (Ne.symm e), if_neg e]
theorem aR_del {a : List Bool} {b c : List Int} {i : Nat} (h1 : i < a.length) : aR (a.set i false, b, c, ()) = upd (aR (a, b, c, ())) i none := by
  funext j
  unfold aR upd
  simp only [List.getD_eq_getElem?_getD]
  by_cases e : j = i
  · subst e
    rw [List.getElem?_set_self h1, if_pos rfl]
    rfl
  · rw [List.getElem?_set_ne (Ne.symm e), if_neg e]
/-- what the programs hold -/
structure TOk (N : Nat) (t : List En × Int × Unit) (σ : Slo) : Prop where
  len : t.1.length = N
  abs : aT t.1 = σ
  nil : ∀ i, (t.1.getD i nilE).2.2.1 = false → (t.1.getD i nilE).2.1 = 0
structure ROk (N : Nat) (w : List Bool × List Int × List Int × Unit) (σ : Slo) : Prop where
  l1 : w.1.length = N
  l2 : w.2.1.length = N
  l3 : w.2.2.1.length = N
  abs : aR w = σ

theorem in_range {p N : Nat} (h : p < N) : (decide ((0 : Int) ≤ (p : Int)) && decide ((p : Int) < (N : Int))) = true := by
  rw [decide_eq_true (by omega), decide_eq_true (by omega)]; rfl
theorem P_succ {N : Nat} {H : Int → Nat} (hN : 0 < N) (h2 : N ≤ 4096) (k : Int) (e : Nat) : Int.tmod (IntKind.wrap .i64 (((P N H k e : Nat) : Int) + 1)) (N : Int) = ((P N H k (e + 1) : Nat) : Int) := by
  have h := P_lt (H := H) hN k e
  rw [wrap64 (by omega) (by omega), Int.tmod_eq_emod_of_nonneg (by omega), show ((P N H k e : Nat) : Int) + 1 = ((P N H k e + 1 : Nat) : Int) by omega, ← Int.natCast_emod, P, P, Nat.mod_add_mod]
  rfl
theorem nz {N : Nat} (hN : 0 < N) : ((N : Int) != (0 : Int)) = true := by
  have : ¬ (N : Int) = 0 := by omega
  simpa using this
theorem findT {N : Nat} (hN : Size N) {l : List En} {n : Int} (hl : l.length = N) {k : Int} {d : Nat} (hf : Fnd N (hm N) (aT l) k d) : table_find.opt (l, n, ()) k = some ((P N (hm N) k d : Nat) : Int) := by
  have loop : ∀ {R : Type} (K : Int → Option R) (m e : Nat), e + m = d → ∀ x, lp (table_find.R0 K) (x + m + 1) ((l, n, ()), k, ((P N (hm N) k e : Nat) : Int)) = K ((P N (hm N) k d : Nat) : Int) := by
    intro R K m
    induction m with
    | zero =>
      intro e he x
      have hp := P_lt (H := hm N) hN.pos k e
      obtain rfl : e = d := by omega
      rw [lp_succ, table_find.R0_eq, table_find.round0]
      simp only [hl, in_range hp, cond_true, Int.toNat_natCast, Bool.or_true]
      change (bif (l.getD (P N (hm N) k e) nilE).2.2.1 && (l.getD (P N (hm N) k e) nilE).1 != k then _ else _) = _
      cases hs : aT l (P N (hm N) k e) with
      | none => rw [aT_none hs]; rfl
      | some y =>
        rw [aT_some hs, hf.stop y hs]
        simp
    | succ m ih =>
      intro e he x
      have hp := P_lt (H := hm N) hN.pos k e
      obtain ⟨y, h1, h2⟩ := hf.way e (by omega)
      rw [show x + (m + 1) + 1 = (x + m + 1) + 1 by omega, lp_succ, table_find.R0_eq, table_find.round0]
      simp only [hl, in_range hp, cond_true, Int.toNat_natCast, Bool.or_true]
      change (bif (l.getD (P N (hm N) k e) nilE).2.2.1 && (l.getD (P N (hm N) k e) nilE).1 != k then _ else _) = _
      rw [aT_some h1, show (y.1 != k) = true by simpa using h2, P_succ hN.pos hN.le, nz hN.pos]
      exact ih (e + 1) (by omega) x
  have hH := table_Home.of_opt _ _ (table_Home_opt k (l.length : Int))
  rw [hl, hN.fix, Int.toNat_natCast] at hH
  unfold table_find.opt table_find.tree table_find.loop0
  simp only [hl, hH.1, hH.2, cond_true]
  have := loop (R := Int) (fun e0 => some e0) d 0 (by omega) (5000 - d - 1)
  have hd := hf.lt
  have hle := hN.le
  rw [show 5000 - d - 1 + d + 1 = 5000 by omega] at this
  rw [show hm N k = P N (hm N) k 0 by rw [P, Nat.add_zero, Nat.mod_eq_of_lt (hm_lt hN k)]]
  exact this
theorem findR {N : Nat} (hN : Size N) {a : List Bool} {b c : List Int} (h1 : a.length = N) (h2 : b.length = N) (h3 : c.length = N) {k : Int} {d : Nat} (hf : Fnd N (hm N) (aR (a, b, c, ())) k d) : ref23_find.opt (a, b, c, ()) k = some ((P N (hm N) k d : Nat) : Int) := by
  have loop : ∀ {R : Type} (K : Int → Option R) (m e : Nat), e + m = d → ∀ x, lp (ref23_find.R0 K) (x + m + 1) ((a, b, c, ()), k, ((P N (hm N) k e : Nat) : Int)) = K ((P N (hm N) k d : Nat) : Int) := by
    intro R K m
    induction m with
    | zero =>
      intro e he x
      have hp := P_lt (H := hm N) hN.pos k e
      obtain rfl : e = d := by omega
      rw [lp_succ, ref23_find.R0_eq, ref23_find.round0]
      simp only [h1, h2, h3, in_range hp, cond_true, Int.toNat_natCast, Bool.or_true]
      cases hs : aR (a, b, c, ()) (P N (hm N) k e) with
      | none => rw [aR_none hs]; rfl
      | some y =>
        rw [(aR_some hs).1, (aR_some hs).2.1, hf.stop y hs]
        simp
    | succ m ih =>
      intro e he x
      have hp := P_lt (H := hm N) hN.pos k e
      obtain ⟨y, g1, g2⟩ := hf.way e (by omega)
      rw [show x + (m + 1) + 1 = (x + m + 1) + 1 by omega, lp_succ, ref23_find.R0_eq, ref23_find.round0]
      simp only [h1, h2, h3, in_range hp, cond_true, Int.toNat_natCast, Bool.or_true]
      rw [(aR_some g1).1, (aR_some g1).2.1, show (y.1 != k) = true by simpa using g2, P_succ hN.pos hN.le, nz hN.pos]
      exact ih (e + 1) (by omega) x
  have hH := ref23_Home.of_opt _ _ (ref23_Home_opt k (c.length : Int))
  rw [h3, hN.fix, Int.toNat_natCast] at hH
  unfold ref23_find.opt ref23_find.tree ref23_find.loop0
  simp only [h3, hH.1, hH.2, cond_true]
  have := loop (R := Int) (fun e0 => some e0) d 0 (by omega) (5000 - d - 1)
  have hd := hf.lt
  have hle := hN.le
  rw [show 5000 - d - 1 + d + 1 = 5000 by omega] at this
  rw [show hm N k = P N (hm N) k 0 by rw [P, Nat.add_zero, Nat.mod_eq_of_lt (hm_lt hN k)]]
  exact this
end Go.D.YtmdnddoiopgboaaDoor
