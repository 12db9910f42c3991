import Derived.Test.YtmdnddoiopgboaaChecked
import Derived.Test.YtmdnddoiopgboaaDX
import Derived.KernelRfl
import Derived.Test.YtmdnddoiopgboaaLstate
namespace Go.D.Ytmdnddoiopgboaa
open Go.Proofs
set_option linter.unusedVariables false
set_option linter.unusedSimpArgs false
set_option maxRecDepth 100000
noncomputable section
def u32B (x : Int) : Bool := decide (0 ≤ x ∧ x < 4294967296)
def sta_ok (s : Sta) : Bool := s.1.length == 16 && s.1.all u32B
theorem sta_ok_iff {s : Sta} (h : sta_ok s = true) : s.1.length = 16 ∧ ∀ x ∈ s.1, U32 x := by
  unfold sta_ok u32B at h
  simp only [Bool.and_eq_true, beq_iff_eq, List.all_eq_true, decide_eq_true_eq] at h
  exact h
theorem and15 (x : Int) : 0 ≤ bitop .and .i64 x 15 ∧ bitop .and .i64 x 15 ≤ 15 := bitop_and_small (k := .i64) (.inl rfl) x 15 (by omega)
theorem sta_len {s : Sta} (h : sta_ok s = true) : state_Bytes.pre s = true := by
  have := (sta_ok_iff h).1
  unfold state_Bytes.pre
  simpa using this
theorem word4_u8 (x : Int) : ∀ y ∈ word4 x, U8 y := by
  intro y hy
  unfold word4 at hy
  simp only [List.mem_cons, List.not_mem_nil, or_false] at hy
  unfold U8
  rcases hy with rfl | rfl | rfl | rfl <;> rw [IntKind.wrap_u8] <;> omega
theorem state_Bytes_u8 (s : Sta) : ∀ y ∈ state_Bytes s, U8 y := by
  intro y hy
  unfold state_Bytes at hy
  rw [List.mem_append, List.mem_flatMap] at hy
  rcases hy with ⟨x, _, hx⟩ | hy
  · exact word4_u8 x y hx
  · simp only [List.mem_cons, List.not_mem_nil, or_false] at hy
    unfold U8
    rcases hy with rfl | rfl
    · rw [IntKind.wrap_u8]; omega
    · cases s.2.2.1 <;> simp
theorem word4_inj {x y : Int} (hx : U32 x) (hy : U32 y) (h : word4 x = word4 y) : x = y := by
  unfold word4 at h
  simp only [List.cons.injEq, and_true] at h
  simp only [shr_u32_8, shr_u32_16, shr_u32_24, IntKind.wrap_u8] at h
  unfold U32 at hx hy
  omega
theorem flatMap4_len (l : List Int) : (l.flatMap word4).length = 4 * l.length := by
  induction l with
  | nil => rfl
  | cons x l ih =>
    rw [List.flatMap_cons, List.length_append, ih]
    simp only [word4, List.length_cons, List.length_nil]
    omega
theorem flatMap4_inj : ∀ {l m : List Int}, (∀ x ∈ l, U32 x) → (∀ x ∈ m, U32 x) → l.length = m.length → l.flatMap word4 = m.flatMap word4 → l = m
  | [], [], _, _, _, _ => rfl
  | [], _ :: _, _, _, h, _ => by simp at h
  | _ :: _, [], _, _, h, _ => by simp at h
  | x :: l, y :: m, hl, hm, hn, h => by
    rw [List.flatMap_cons, List.flatMap_cons] at h
    obtain ⟨h1, h2⟩ := List.append_inj h rfl
    rw [word4_inj (hl x (by simp)) (hm y (by simp)) h1, flatMap4_inj (fun z hz => hl z (by simp [hz])) (fun z hz => hm z (by simp [hz])) (by simpa using hn) h2]
theorem state_Bytes_len {s : Sta} (h : sta_ok s = true) : (state_Bytes s).length = 66 := by
  unfold state_Bytes
  rw [List.length_append, flatMap4_len, (sta_ok_iff h).1]
  rfl
theorem state_Bytes_inj {a b : Sta} (ha : sta_ok a = true) (hb : sta_ok b = true) : state_Bytes a = state_Bytes b ↔ (a.1 = b.1 ∧ bitop .and .i64 a.2.1 15 = bitop .and .i64 b.2.1 15 ∧ a.2.2.1 = b.2.2.1) := by
  obtain ⟨l1, u1⟩ := sta_ok_iff ha
  obtain ⟨l2, u2⟩ := sta_ok_iff hb
  unfold state_Bytes
  constructor
  · intro h
    obtain ⟨h1, h2⟩ := List.append_inj h (by rw [flatMap4_len, flatMap4_len, l1, l2])
    simp only [List.cons.injEq, and_true] at h2
    refine ⟨flatMap4_inj u1 u2 (by rw [l1, l2]) h1, ?_, ?_⟩
    · have k1 := and15 a.2.1
      have k2 := and15 b.2.1
      have := h2.1
      rw [IntKind.wrap_u8, IntKind.wrap_u8] at this
      omega
    · have := h2.2
      cases ha : a.2.2.1 <;> cases hb : b.2.2.1 <;> rw [ha, hb] at this <;> simp at this <;> rfl
  · rintro ⟨h1, h2, h3⟩
    rw [h1, h2, h3]
theorem state_Same_iff (a b : Sta) : state_Same a b = decide (a.1 = b.1 ∧ bitop .and .i64 a.2.1 15 = bitop .and .i64 b.2.1 15 ∧ a.2.2.1 = b.2.2.1) := by
  show (eqL (fun a b => (a : Int) == b) a.1 b.1 && (((bitop .and .i64 a.2.1 15) : Int) == bitop .and .i64 b.2.1 15 && (a.2.2.1 == b.2.2.1 && true))) = _
  rw [eqL_int, Bool.and_true]
  cases a.2.2.1 <;> cases b.2.2.1 <;> by_cases h1 : a.1 = b.1 <;> by_cases h2 : bitop .and .i64 a.2.1 15 = bitop .and .i64 b.2.1 15 <;> simp [h1, h2]
theorem state_bytes_same {a b : Sta} (ha : sta_ok a = true) (hb : sta_ok b = true) : ((bytesOf (state_Bytes a)).toList == (bytesOf (state_Bytes b)).toList) = state_Same a b := by
  rw [bytes_beq (state_Bytes_u8 a) (state_Bytes_u8 b), state_Same_iff]
  exact decide_eq_decide.2 (state_Bytes_inj ha hb)

/-! ### law12_StateBytes -/
def law12_StateBytes.env : Env := envCons 10 law12_known.ctr <| envCons 15 state_Bytes.ctr <| envCons 11 state_Same.ctr <| envNil
theorem law12_StateBytes.envOk : EnvOk Try.prog law12_StateBytes.env := envOk_cons law12_known.known (envOk_cons state_Bytes.known (envOk_cons state_Same.known (envOk_nil _)))
def law12_StateBytes.T2000005 : Tm := ⟨fill 0 52 [(2, Sl.data (Ty.int IntKind.u8)), (3, Sl.data (Ty.int IntKind.u32)), (4, Sl.ptr (4 : Nat) []), (5, Sl.ptr (5 : Nat) []), (9, Sl.ptr (9 : Nat) [])], [{ k := (4 : Nat), t := StT, vir := false }, { k := (5 : Nat), t := StT, vir := false }, { k := (9 : Nat), t := StT, vir := false }]⟩
def law12_StateBytes.X2000005_normal : Tm := ⟨fill 0 52 [(8, Sl.data Ty.bool)], []⟩
def law12_StateBytes.o2000005 {R : Type} (v0 : Int) (v1 : Int) (v2 : List Int × Int × Bool × Unit) (v3 : List Int × Int × Bool × Unit) (v4 : List Int × Int × Bool × Unit) (knormal : Bool → Option R) : Option R :=
  bif state_Bytes.pre v2 then bif state_Bytes.pre v3 then bif eqD Ty.bool (ByteArray.toList (bytesOf (state_Bytes v2)) == ByteArray.toList (bytesOf (state_Bytes v3))) (state_Same v2 v3) then bif state_Bytes.pre v2 then bif state_Bytes.pre v4 then bif decide ((0 : Int) ≤ Int.tmod v0 (16 : Int)) && decide (Int.tmod v0 (16 : Int) < (16 : Int)) then bif eqD Ty.bool (ByteArray.toList (bytesOf (state_Bytes v2)) == ByteArray.toList (bytesOf (state_Bytes v4))) (List.getD (Prod.fst v2) (Int.toNat (Int.tmod v0 (16 : Int))) (0 : Int) == v1) then bif state_Bytes.pre v3 then knormal (↑(List.length (state_Bytes v3)) == (66 : Int)) else none else knormal false else none else none else none else knormal false else none else none
def law12_StateBytes.s2000005 {R : Type} (v0 : Int) (v1 : Int) (v2 : List Int × Int × Bool × Unit) (v3 : List Int × Int × Bool × Unit) (v4 : List Int × Int × Bool × Unit) (knormal : Bool → Option R) : Option R :=
  bif state_Bytes.pre v2 then bif state_Bytes.pre v3 then bif !eqD Ty.bool (ByteArray.toList (bytesOf (state_Bytes v2)) == ByteArray.toList (bytesOf (state_Bytes v3))) (state_Same v2 v3) || state_Bytes.pre v2 && (state_Bytes.pre v4 && (decide ((0 : Int) ≤ Int.tmod v0 (16 : Int)) && decide (Int.tmod v0 (16 : Int) < (16 : Int)) && (!eqD Ty.bool (ByteArray.toList (bytesOf (state_Bytes v2)) == ByteArray.toList (bytesOf (state_Bytes v4))) (List.getD (Prod.fst v2) (Int.toNat (Int.tmod v0 (16 : Int))) (0 : Int) == v1) || state_Bytes.pre v3))) then knormal (eqD Ty.bool (ByteArray.toList (bytesOf (state_Bytes v2)) == ByteArray.toList (bytesOf (state_Bytes v3))) (state_Same v2 v3) && (eqD Ty.bool (ByteArray.toList (bytesOf (state_Bytes v2)) == ByteArray.toList (bytesOf (state_Bytes v4))) (List.getD (Prod.fst v2) (Int.toNat (Int.tmod v0 (16 : Int))) (0 : Int) == v1) && ↑(List.length (state_Bytes v3)) == (66 : Int))) else none else none else none
theorem law12_StateBytes.s2000005_eq {R : Type} (v0 : Int) (v1 : Int) (v2 : List Int × Int × Bool × Unit) (v3 : List Int × Int × Bool × Unit) (v4 : List Int × Int × Bool × Unit) (knormal : Bool → Option R) : law12_StateBytes.s2000005 v0 v1 v2 v3 v4 knormal = law12_StateBytes.o2000005 v0 v1 v2 v3 v4 knormal := by
  unfold law12_StateBytes.s2000005 law12_StateBytes.o2000005
  (cases hc : state_Bytes.pre v2 with | false => rfl | true => (cases hc : state_Bytes.pre v3 with | false => rfl | true => (cases hc : eqD Ty.bool (ByteArray.toList (bytesOf (state_Bytes v2)) == ByteArray.toList (bytesOf (state_Bytes v3))) (state_Same v2 v3) with | false => rfl | true => (cases hc : state_Bytes.pre v4 with | false => rfl | true => (cases hc : decide ((0 : Int) ≤ Int.tmod v0 (16 : Int)) && decide (Int.tmod v0 (16 : Int) < (16 : Int)) with | false => rfl | true => (cases hc : eqD Ty.bool (ByteArray.toList (bytesOf (state_Bytes v2)) == ByteArray.toList (bytesOf (state_Bytes v4))) (List.getD (Prod.fst v2) (Int.toNat (Int.tmod v0 (16 : Int))) (0 : Int) == v1) with | false => rfl | true => rfl))))))
def law12_StateBytes.C : Cfg := { rows := [], keep := [(2000005, [2, 3, 4, 5, 9], [4, 5, 9]), (12000005, [8], [])], adopt := [] }
def law12_StateBytes.sum2000005 : FrV law12_StateBytes.T2000005.fr × StV law12_StateBytes.T2000005.st → (Ex → S → Option (List DVal)) → Option (List DVal) := fun ((v0, v1, ()), (v2, v3, v4, ())) K => law12_StateBytes.s2000005 v0 v1 v2 v3 v4 (fun e0 => K .normal (pack law12_StateBytes.X2000005_normal ((e0, ()), (()))))
def law12_StateBytes.L : Nat → Option Sum := fun i => if i = 2000005 then some (sumOf law12_StateBytes.T2000005 law12_StateBytes.sum2000005) else none
theorem law12_StateBytes.x2000005 : ∀ v (K : Ex → S → Option (List DVal)), exec1 Try.prog law12_StateBytes.C law12_StateBytes.env law12_StateBytes.L (spotOf Try.f4 2000005).2.1 (spotOf Try.f4 2000005).2.2 (pack law12_StateBytes.T2000005 v) (fun e s' => K e (trim law12_StateBytes.C (2000005 + 10000000) s')) = (fun (((v0, v1, ()), (v2, v3, v4, ())) : FrV law12_StateBytes.T2000005.fr × StV law12_StateBytes.T2000005.st) => law12_StateBytes.o2000005 v0 v1 v2 v3 v4 (fun e0 => K .normal (pack law12_StateBytes.X2000005_normal ((e0, ()), (()))))) v :=
  fun ((v0, v1, ()), (v2, v3, v4, ())) K => by kernel_rfl
theorem law12_StateBytes.sum2000005_ok : SpotOk Try.prog law12_StateBytes.C law12_StateBytes.env law12_StateBytes.L (spotOf Try.f4 2000005) := spotOk_of (T := law12_StateBytes.T2000005) (q := 2000005) (f := law12_StateBytes.sum2000005) (by kernel_rfl) (by kernel_rfl) fun ((v0, v1, ()), (v2, v3, v4, ())) K r h => (law12_StateBytes.x2000005 _ K).trans ((law12_StateBytes.s2000005_eq v0 v1 v2 v3 v4 (fun e0 => K .normal (pack law12_StateBytes.X2000005_normal ((e0, ()), (()))))).symm.trans h)
def law12_StateBytes.tree {R : Type} (a0 : List Int × Int × Bool × Unit) (a1 : List Int × Int × Bool × Unit) (a2 : Int) (a3 : Int) (ret : Bool → Option R) : Option R :=
  bif decide ((0 : Int) ≤ Int.tmod a2 (16 : Int)) && decide (Int.tmod a2 (16 : Int) < (16 : Int)) then bif state_Bytes.pre a0 then bif state_Bytes.pre a1 then bif !eqD Ty.bool (ByteArray.toList (bytesOf (state_Bytes a0)) == ByteArray.toList (bytesOf (state_Bytes a1))) (state_Same a0 a1) || state_Bytes.pre a0 && (state_Bytes.pre (List.set (Prod.fst a0) (Int.toNat (Int.tmod a2 (16 : Int))) a3, Prod.snd a0) && (decide ((0 : Int) ≤ Int.tmod a2 (16 : Int)) && decide (Int.tmod a2 (16 : Int) < (16 : Int)) && (!eqD Ty.bool (ByteArray.toList (bytesOf (state_Bytes a0)) == ByteArray.toList (bytesOf (state_Bytes (List.set (Prod.fst a0) (Int.toNat (Int.tmod a2 (16 : Int))) a3, Prod.snd a0)))) (List.getD (Prod.fst a0) (Int.toNat (Int.tmod a2 (16 : Int))) (0 : Int) == a3) || state_Bytes.pre a1))) then ret (eqD Ty.bool (ByteArray.toList (bytesOf (state_Bytes a0)) == ByteArray.toList (bytesOf (state_Bytes a1))) (state_Same a0 a1) && (eqD Ty.bool (ByteArray.toList (bytesOf (state_Bytes a0)) == ByteArray.toList (bytesOf (state_Bytes (List.set (Prod.fst a0) (Int.toNat (Int.tmod a2 (16 : Int))) a3, Prod.snd a0)))) (List.getD (Prod.fst a0) (Int.toNat (Int.tmod a2 (16 : Int))) (0 : Int) == a3) && ↑(List.length (state_Bytes a1)) == (66 : Int))) else none else none else none else none
theorem law12_StateBytes.eq (a0 : List Int × Int × Bool × Unit) (a1 : List Int × Int × Bool × Unit) (a2 : Int) (a3 : Int) : body Try.prog law12_StateBytes.C law12_StateBytes.env law12_StateBytes.L Try.f4 [⟨StT, a0⟩, ⟨StT, a1⟩, ⟨Ty.int IntKind.u8, a2⟩, ⟨Ty.int IntKind.u32, a3⟩] = law12_StateBytes.tree a0 a1 a2 a3 (fun r0 => some ([⟨Ty.bool, r0⟩] : List DVal)) := by kernel_rfl
def law12_StateBytes.pre (a b : Sta) (k v : Int) : Bool := sta_ok a && sta_ok b && decide (0 ≤ k ∧ k < 256) && u32B v
def law12_StateBytes (a b : Sta) (k v : Int) : Bool := true
theorem mem_set {l : List Int} {i : Nat} {v : Int} {P : Int → Prop} (h : ∀ x ∈ l, P x) (hv : P v) : ∀ x ∈ l.set i v, P x := fun x hx => by
  rcases List.mem_or_eq_of_mem_set hx with h1 | h1
  · exact h x h1
  · rw [h1]; exact hv
theorem sta_set {a : Sta} (h : sta_ok a = true) (i : Nat) {v : Int} (hv : U32 v) : sta_ok (a.1.set i v, a.2) = true := by
  obtain ⟨h1, h2⟩ := sta_ok_iff h
  unfold sta_ok u32B
  simp only [Bool.and_eq_true, beq_iff_eq, List.all_eq_true, decide_eq_true_eq, List.length_set]
  exact ⟨h1, mem_set h2 hv⟩
theorem set_same {l : List Int} {i : Nat} (hi : i < l.length) (v : Int) : l = l.set i v ↔ l.getD i 0 = v := by
  have e : l.getD i 0 = l[i] := by rw [List.getD_eq_getElem?_getD, List.getElem?_eq_getElem hi]; rfl
  rw [e]
  constructor
  · intro h
    have : (l.set i v)[i]'(by simpa using hi) = v := List.getElem_set_self _
    rw [← this]
    congr 1
  · intro h
    rw [← h]
    exact (List.set_getElem_self hi).symm
theorem law12_StateBytes.nice {R : Type} (a b : Sta) (k v : Int) (hp : law12_StateBytes.pre a b k v = true) (ret : Bool → Option R) : law12_StateBytes.tree a b k v ret = ret (law12_StateBytes a b k v) := by
  unfold law12_StateBytes.pre u32B at hp
  simp only [Bool.and_eq_true, decide_eq_true_eq] at hp
  obtain ⟨⟨⟨ha, hb⟩, hk⟩, hv⟩ := hp
  unfold law12_StateBytes.tree
  rw [Int.tmod_eq_emod_of_nonneg hk.1]
  have h1 : 0 ≤ k % 16 := by omega
  have h2 : k % 16 < 16 := by omega
  generalize k % 16 = j at h1 h2
  have hc := sta_set ha j.toNat hv
  have e : state_Same a (a.1.set j.toNat v, a.2) = (List.getD a.1 j.toNat 0 == v) := by
    rw [state_Same_iff, Bool.eq_iff_iff]
    simp only [and_true, decide_eq_true_eq, beq_iff_eq]
    exact set_same (by rw [(sta_ok_iff ha).1]; omega) v
  rw [decide_eq_true h1, decide_eq_true h2, sta_len ha, sta_len hb, sta_len hc, state_bytes_same ha hb, state_bytes_same ha hc, state_Bytes_len hb, e]
  unfold eqD law12_StateBytes
  simp

def law12_StateBytes.ctr : Ctr := ctrOf [StT, StT, Ty.int IntKind.u8, Ty.int IntKind.u32] fun x => .guard (law12_StateBytes.pre (x.1) (x.2.1) (x.2.2.1) (x.2.2.2.1)) (.ret [⟨Ty.bool, law12_StateBytes (x.1) (x.2.1) (x.2.2.1) (x.2.2.2.1)⟩])
theorem law12_StateBytes.known : Known Try.prog 4 law12_StateBytes.ctr :=
  known_plain law12_StateBytes.envOk mixed Try.func4 (by kernel_rfl) (by kernel_rfl) (noLoops (by kernel_rfl)) (bySpot (ids := [2000005]) (by kernel_rfl) (by intro q hq; simp only [List.mem_cons, List.not_mem_nil, or_false] at hq; subst hq; first | exact law12_StateBytes.sum2000005_ok)) fun x rs h => by
    obtain ⟨a0, a1, a2, a3, u⟩ := x
    cases u
    simp only [Cmd.val_guard, Cmd.val_ret] at h
    split at h <;> try (cases h; done)
    rename_i hp
    exact (law12_StateBytes.eq a0 a1 a2 a3).trans ((law12_StateBytes.nice a0 a1 a2 a3 hp (fun r0 => some ([⟨Ty.bool, r0⟩] : List DVal))).trans h)
end
end Go.D.Ytmdnddoiopgboaa
