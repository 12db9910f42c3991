/- The abstract machine D, part X: plain facts of numbers, lists, bytes. -/
import Derived.Test.YtmdnddoiopgboaaDoorDW
namespace Go.D
set_option linter.unusedSimpArgs false
set_option linter.unusedVariables false

theorem toList_loop (s : ByteArray) : ∀ (n i : Nat) (r : List UInt8), s.size - i = n → i ≤ s.size → ByteArray.toList.loop s i r = r.reverse ++ s.data.toList.drop i := by
  intro n
  induction n with
  | zero =>
    intro i r h hi
    unfold ByteArray.toList.loop
    have hs : s.data.toList.length = s.size := by rw [Array.length_toList]; rfl
    rw [if_neg (by omega), List.drop_of_length_le (by omega)]
    simp
  | succ n ih =>
    intro i r h hi
    unfold ByteArray.toList.loop
    have hlt : i < s.size := by omega
    have hs : s.data.toList.length = s.size := by rw [Array.length_toList]; rfl
    rw [if_pos hlt, ih (i + 1) _ (by omega) (by omega), List.drop_eq_getElem_cons (by omega : i < s.data.toList.length)]
    have hg : s.get! i = s.data.toList[i] := by
      have : i < s.data.size := hlt
      simp only [ByteArray.get!]
      rw [getElem!_pos s.data i this]
      simp
    rw [hg]
    simp
theorem toList_data (s : ByteArray) : s.toList = s.data.toList := by
  unfold ByteArray.toList
  rw [toList_loop s _ 0 [] rfl (by omega)]
  simp
theorem bytesOf_toList (l : List Int) : (bytesOf l).toList = l.map fun n => UInt8.ofNat n.toNat := by
  rw [toList_data]
  simp [bytesOf]
def U8 (a : Int) : Prop := 0 ≤ a ∧ a < 256
def U32 (a : Int) : Prop := 0 ≤ a ∧ a < 4294967296
theorem map_u8_inj : ∀ {l m : List Int}, (∀ x ∈ l, U8 x) → (∀ x ∈ m, U8 x) → l.map (fun n => UInt8.ofNat n.toNat) = m.map (fun n => UInt8.ofNat n.toNat) → l = m
  | [], [], _, _, _ => rfl
  | [], y :: m, _, _, h => by simp at h
  | x :: l, [], _, _, h => by simp at h
  | x :: l, y :: m, hl, hm, h => by
    simp only [List.map_cons, List.cons.injEq] at h
    have h1 := hl x (by simp)
    have h2 := hm y (by simp)
    have h3 := congrArg UInt8.toNat h.1
    simp only [UInt8.toNat_ofNat'] at h3
    unfold U8 at h1 h2
    have : x = y := by omega
    rw [this, map_u8_inj (fun z hz => hl z (by simp [hz])) (fun z hz => hm z (by simp [hz])) h.2]
theorem bytes_beq {l m : List Int} (hl : ∀ x ∈ l, U8 x) (hm : ∀ x ∈ m, U8 x) : ((bytesOf l).toList == (bytesOf m).toList) = decide (l = m) := by
  rw [bytesOf_toList, bytesOf_toList]
  by_cases h : l = m
  · subst h; simp
  · rw [decide_eq_false h]
    simp only [beq_eq_false_iff_ne, ne_eq]
    exact fun e => h (map_u8_inj hl hm e)
theorem eqL_int : ∀ (l m : List Int), eqL (fun a b => (a : Int) == b) l m = decide (l = m)
  | [], [] => rfl
  | [], _ :: _ => rfl
  | _ :: _, [] => rfl
  | a :: l, b :: m => by
    simp only [eqL, eqL_int l m]
    by_cases h : a = b <;> simp [h]
theorem bitop_and_small {k : IntKind} (hk : k = .i64 ∨ k = .u32 ∨ k = .u64) (x : Int) (y : Nat) (hy : y < 4294967296) : 0 ≤ bitop .and k x y ∧ bitop .and k x y ≤ y := by
  rcases hk with rfl | rfl | rfl
  · have h : (BitVec.ofInt 64 x &&& BitVec.ofInt 64 (y : Int)).toNat ≤ y := by
      rw [BitVec.toNat_and]
      refine Nat.le_trans Nat.and_le_right ?_
      rw [BitVec.toNat_ofInt]
      omega
    change 0 ≤ IntKind.wrap .i64 ((BitVec.ofInt 64 x &&& BitVec.ofInt 64 (y : Int)).toNat : Int) ∧ IntKind.wrap .i64 ((BitVec.ofInt 64 x &&& BitVec.ofInt 64 (y : Int)).toNat : Int) ≤ _
    rw [IntKind.wrap_i64]
    generalize (BitVec.ofInt 64 x &&& BitVec.ofInt 64 (y : Int)).toNat = z at h
    omega
  · have h : (BitVec.ofInt 32 x &&& BitVec.ofInt 32 (y : Int)).toNat ≤ y := by
      rw [BitVec.toNat_and]
      refine Nat.le_trans Nat.and_le_right ?_
      rw [BitVec.toNat_ofInt]
      omega
    change 0 ≤ IntKind.wrap .u32 ((BitVec.ofInt 32 x &&& BitVec.ofInt 32 (y : Int)).toNat : Int) ∧ IntKind.wrap .u32 ((BitVec.ofInt 32 x &&& BitVec.ofInt 32 (y : Int)).toNat : Int) ≤ _
    rw [IntKind.wrap_u32]
    generalize (BitVec.ofInt 32 x &&& BitVec.ofInt 32 (y : Int)).toNat = z at h
    omega
  · have h : (BitVec.ofInt 64 x &&& BitVec.ofInt 64 (y : Int)).toNat ≤ y := by
      rw [BitVec.toNat_and]
      refine Nat.le_trans Nat.and_le_right ?_
      rw [BitVec.toNat_ofInt]
      omega
    change 0 ≤ IntKind.wrap .u64 ((BitVec.ofInt 64 x &&& BitVec.ofInt 64 (y : Int)).toNat : Int) ∧ IntKind.wrap .u64 ((BitVec.ofInt 64 x &&& BitVec.ofInt 64 (y : Int)).toNat : Int) ≤ _
    rw [IntKind.wrap_u64]
    generalize (BitVec.ofInt 64 x &&& BitVec.ofInt 64 (y : Int)).toNat = z at h
    omega
theorem shr_u32 {x : Int} {y : Nat} (hy : y ≤ 32) : shr .u32 x y = x / 2 ^ y := by
  show x.fdiv (2 ^ (min ((y : Int).toNat) 32)) = _
  rw [show min ((y : Int).toNat) 32 = y by omega, Int.fdiv_eq_ediv_of_nonneg _ (Int.le_of_lt (Int.pow_pos (by omega)))]
theorem shr_u32_0 (x : Int) : shr .u32 x 0 = x := by rw [show (0 : Int) = ((0 : Nat) : Int) from rfl, shr_u32 (by omega)]; simp
theorem shr_u32_8 (x : Int) : shr .u32 x 8 = x / 256 := shr_u32 (y := 8) (by omega)
theorem shr_u32_16 (x : Int) : shr .u32 x 16 = x / 65536 := shr_u32 (y := 16) (by omega)
theorem shr_u32_24 (x : Int) : shr .u32 x 24 = x / 16777216 := shr_u32 (y := 24) (by omega)
/-- a loop whose rounds all go on, and change nothing but the counter -/
theorem lp_pass {V R : Type} {round : V → (V → Option R) → Option R} (mk : Int → V) {n : Int} {K : Option R} (h1 : ∀ i, 0 ≤ i → i < n → ∀ next : V → Option R, round (mk i) next = next (mk (i + 1))) (h2 : ∀ next : V → Option R, round (mk n) next = K) :
    ∀ i, 0 ≤ i → i ≤ n → ∃ f, lp round f (mk i) = K := by
  intro i h0 hn
  generalize hd : (n - i).toNat = d
  induction d generalizing i with
  | zero =>
    have : i = n := by omega
    subst this
    exact ⟨1, h2 _⟩
  | succ d ih =>
    obtain ⟨f, hf⟩ := ih (i + 1) (by omega) (by omega) (by omega)
    exact ⟨f + 1, by rw [lp_succ, h1 i h0 (by omega)]; exact hf⟩
/-- a loop whose rounds all go on, with a state -/
theorem lp_iter {V W R : Type} {round : V → (V → Option R) → Option R} (mk : Int → W → V) (step : Int → W → W) (inv : Int → W → Prop) {n : Int} {K : W → Option R} (h1 : ∀ i w, 0 ≤ i → i < n → inv i w → inv (i + 1) (step i w) ∧ ∀ next : V → Option R, round (mk i w) next = next (mk (i + 1) (step i w))) (h2 : ∀ w, inv n w → ∀ next : V → Option R, round (mk n w) next = K w) :
    ∀ i w, 0 ≤ i → i ≤ n → inv i w → ∃ f w', inv n w' ∧ lp round f (mk i w) = K w' := by
  intro i w h0 hn hi
  generalize hd : (n - i).toNat = d
  induction d generalizing i w with
  | zero =>
    have : i = n := by omega
    subst this
    exact ⟨1, w, hi, h2 w hi _⟩
  | succ d ih =>
    obtain ⟨k1, k2⟩ := h1 i w h0 (by omega) hi
    obtain ⟨f, w', hw, hf⟩ := ih (i + 1) _ (by omega) (by omega) k1 (by omega)
    exact ⟨f + 1, w', hw, by rw [lp_succ, k2]; exact hf⟩
theorem iminmax_min (x y : Int) : iminmax false x y = min x y := by
  unfold iminmax
  simp only [Bool.false_eq_true, if_false]
  split <;> omega
theorem iminmax_max (x y : Int) : iminmax true x y = max x y := by
  unfold iminmax
  simp only [if_true]
  split <;> omega
theorem bind_cond {α β : Type} (c : Bool) (a b : Option α) (f : α → Option β) : (bif c then a else b).bind f = bif c then a.bind f else b.bind f := by cases c <;> rfl
theorem bind_ite {α β : Type} (c : Prop) [Decidable c] (a b : Option α) (f : α → Option β) : (if c then a else b).bind f = if c then a.bind f else b.bind f := by split <;> rfl
theorem nat_some {α β : Type} (x : α) (f : α → Option β) : f x = (some x).bind f := rfl
theorem nat_leaf {α β : Type} {x : α} {f : α → Option β} {a : Option β} (h : a = f x) : a = (some x).bind f := h
theorem nat_none {α β : Type} (f : α → Option β) : none = (none : Option α).bind f := rfl
theorem nat_cond {α β : Type} {c : Bool} {a b : Option α} {a' b' : Option β} {f : α → Option β} (h : a' = a.bind f) (k : b' = b.bind f) : (bif c then a' else b') = (bif c then a else b).bind f := by rw [bind_cond, h, k]
theorem nat_ite {α β : Type} {c : Prop} [Decidable c] {a b : Option α} {a' b' : Option β} {f : α → Option β} (h : a' = a.bind f) (k : b' = b.bind f) : (if c then a' else b') = (if c then a else b).bind f := by rw [bind_ite, h, k]
theorem nat_lp {V α β : Type} {R : V → (V → Option α) → Option α} {R' : V → (V → Option β) → Option β} {f : α → Option β} (h : ∀ v (next : V → Option α) (next' : V → Option β), (∀ w, next' w = (next w).bind f) → R' v next' = (R v next).bind f) : ∀ n v, lp R' n v = (lp R n v).bind f
  | 0, _ => rfl
  | n + 1, v => h v _ _ (nat_lp h n)
theorem lp_all {V R : Type} {round : V → (V → Option R) → Option R} {spec : V → Option R} {inv : V → Prop} {μ : V → Nat} (h : ∀ v next, inv v → (∀ w, inv w → μ w < μ v → next w = spec w) → round v next = spec v) : ∀ n v, inv v → μ v < n → lp round n v = spec v
  | 0, _, _, hn => absurd hn (Nat.not_lt_zero _)
  | n + 1, v, hv, hn => h v _ hv fun w hw hlt => lp_all h n w hw (by omega)
end Go.D
