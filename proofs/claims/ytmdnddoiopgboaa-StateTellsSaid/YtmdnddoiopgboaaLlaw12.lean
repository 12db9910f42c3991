import Derived.Test.YtmdnddoiopgboaaChecked
import Derived.Test.YtmdnddoiopgboaaDX
import Derived.KernelRfl
import Derived.Test.YtmdnddoiopgboaaLstate
namespace Go.D.Ytmdnddoiopgboaa
open Go.Proofs
set_option linter.unusedVariables false
set_option linter.unusedSimpArgs false
set_option maxRecDepth 100000
noncomputable section
def u32B (x : Int) : Bool := decide (0 ≤ x ∧ x < 4294967296)
def sta_ok (s : Sta) : Bool := s.1.length == 16 && s.1.all u32B
theorem sta_ok_iff {s : Sta} (h : sta_ok s = true) : s.1.length = 16 ∧ ∀ x ∈ s.1, U32 x := by
  unfold sta_ok u32B at h
  simp only [Bool.and_eq_true, beq_iff_eq, List.all_eq_true, decide_eq_true_eq] at h
  exact h
theorem and15 (x : Int) : 0 ≤ bitop .and .i64 x 15 ∧ bitop .and .i64 x 15 ≤ 15 := bitop_and_small (k := .i64) (.inl rfl) x 15 (by omega)
theorem sta_len {s : Sta} (h : sta_ok s = true) : state_Bytes.pre s = true := by
  have := (sta_ok_iff h).1
  unfold state_Bytes.pre
  simpa using this
theorem word4_u8 (x : Int) : ∀ y ∈ word4 x, U8 y := by
  intro y hy
  unfold word4 at hy
  simp only [List.mem_cons, List.not_mem_nil, or_false] at hy
  unfold U8
  rcases hy with rfl | rfl | rfl | rfl <;> rw [IntKind.wrap_u8] <;> omega
theorem state_Bytes_u8 (s : Sta) : ∀ y ∈ state_Bytes s, U8 y := by
  intro y hy
  unfold state_Bytes at hy
  rw [List.mem_append, List.mem_flatMap] at hy
  rcases hy with ⟨x, _, hx⟩ | hy
  · exact word4_u8 x y hx
  · simp only [List.mem_cons, List.not_mem_nil, or_false] at hy
    unfold U8
    rcases hy with rfl | rfl
    · rw [IntKind.wrap_u8]; omega
    · cases s.2.2.1 <;> simp
theorem word4_inj {x y : Int} (hx : U32 x) (hy : U32 y) (h : word4 x = word4 y) : x = y := by
  unfold word4 at h
  simp only [List.cons.injEq, and_true] at h
  simp only [shr_u32_8, shr_u32_16, shr_u32_24, IntKind.wrap_u8] at h
  unfold U32 at hx hy
  omega
theorem flatMap4_len (l : List Int) : (l.flatMap word4).length = 4 * l.length := by
  induction l with
  | nil => rfl
  | cons x l ih =>
    rw [List.flatMap_cons, List.length_append, ih]
    simp only [word4, List.length_cons, List.length_nil]
    omega
theorem flatMap4_inj : ∀ {l m : List Int}, (∀ x ∈ l, U32 x) → (∀ x ∈ m, U32 x) → l.length = m.length → l.flatMap word4 = m.flatMap word4 → l = m
  | [], [], _, _, _, _ => rfl
  | [], _ :: _, _, _, h, _ => by simp at h
  | _ :: _, [], _, _, h, _ => by simp at h
  | x :: l, y :: m, hl, hm, hn, h => by
    rw [List.flatMap_cons, List.flatMap_cons] at h
    obtain ⟨h1, h2⟩ := List.append_inj h rfl
    rw [word4_inj (hl x (by simp)) (hm y (by simp)) h1, flatMap4_inj (fun z hz => hl z (by simp [hz])) (fun z hz => hm z (by simp [hz])) (by simpa using hn) h2]
theorem state_Bytes_len {s : Sta} (h : sta_ok s = true) : (state_Bytes s).length = 66 := by
  unfold state_Bytes
  rw [List.length_append, flatMap4_len, (sta_ok_iff h).1]
  rfl
theorem state_Bytes_inj {a b : Sta} (ha : sta_ok a = true) (hb : sta_ok b = true) : state_Bytes a = state_Bytes b ↔ (a.1 = b.1 ∧ bitop .and .i64 a.2.1 15 = bitop .and .i64 b.2.1 15 ∧ a.2.2.1 = b.2.2.1) := by
  obtain ⟨l1, u1⟩ := sta_ok_iff ha
  obtain ⟨l2, u2⟩ := sta_ok_iff hb
  unfold state_Bytes
  constructor
  · intro h
    obtain ⟨h1, h2⟩ := List.append_inj h (by rw [flatMap4_len, flatMap4_len, l1, l2])
    simp only [List.cons.injEq, and_true] at h2
    refine ⟨flatMap4_inj u1 u2 (by rw [l1, l2]) h1, ?_, ?_⟩
    · have k1 := and15 a.2.1
      have k2 := and15 b.2.1
      have := h2.1
      rw [IntKind.wrap_u8, IntKind.wrap_u8] at this
      omega
    · have := h2.2
      cases ha : a.2.2.1 <;> cases hb : b.2.2.1 <;> rw [ha, hb] at this <;> simp at this <;> rfl
  · rintro ⟨h1, h2, h3⟩
    rw [h1, h2, h3]
theorem state_Same_iff (a b : Sta) : state_Same a b = decide (a.1 = b.1 ∧ bitop .and .i64 a.2.1 15 = bitop .and .i64 b.2.1 15 ∧ a.2.2.1 = b.2.2.1) := by
  show (eqL (fun a b => (a : Int) == b) a.1 b.1 && (((bitop .and .i64 a.2.1 15) : Int) == bitop .and .i64 b.2.1 15 && (a.2.2.1 == b.2.2.1 && true))) = _
  rw [eqL_int, Bool.and_true]
  cases a.2.2.1 <;> cases b.2.2.1 <;> by_cases h1 : a.1 = b.1 <;> by_cases h2 : bitop .and .i64 a.2.1 15 = bitop .and .i64 b.2.1 15 <;> simp [h1, h2]
theorem state_bytes_same {a b : Sta} (ha : sta_ok a = true) (hb : sta_ok b = true) : ((bytesOf (state_Bytes a)).toList == (bytesOf (state_Bytes b)).toList) = state_Same a b := by
  rw [bytes_beq (state_Bytes_u8 a) (state_Bytes_u8 b), state_Same_iff]
  exact decide_eq_decide.2 (state_Bytes_inj ha hb)

/-! ### law12_StateBytes -/
def law12_StateBytes.env : Env := envCons 10 law12_known.ctr <| envCons 15 state_Bytes.ctr <| envCons 11 state_Same.ctr <| envNil
theorem law12_StateBytes.envOk : EnvOk Try.prog law12_StateBytes.env := envOk_cons law12_known.known (envOk_cons state_Bytes.known (envOk_cons state_Same.known (envOk_nil _)))
def law12_StateBytes.T2000005 : Tm := ⟨fill 0 52 [(2, Sl.data (Ty.int IntKind.u8)), (3, Sl.data (Ty.int IntKind.u32)), (4, Sl.ptr (4 : Nat) []), (5, Sl.ptr (5 : Nat) []), (9, Sl.ptr (9 : Nat) [])], [{ k := (4 : Nat), t := StT, vir := false }, { k := (5 : Nat), t := StT, vir := false }, { k := (9 : Nat), t := StT, vir := false }]⟩
def law12_StateBytes.X2000005_normal : Tm := ⟨fill 0 52 [(8, Sl.data Ty.bool)], []⟩
def law12_StateBytes.o2000005 {R : Type} (v0 : Int) (v1 : Int) (v2 : List Int × Int × Bool × Unit) (v3 : List Int × Int × Bool × Unit) (v4 : List Int × Int × Bool × Unit) (knormal : Bool → Option R) : Option R :=
  bif state_Bytes.pre v2 then bif state_Bytes.pre v3 then bif eqD Ty.bool (ByteArray.toList (bytesOf (state_Bytes v2)) == ByteArray.toList (bytesOf (state_Bytes v3))) (state_Same v2 v3) then bif state_Bytes.pre v2 then bif state_Bytes.pre v4 then bif decide ((0 : Int) ≤ Int.tmod v0 (16 : Int)) && decide (Int.tmod v0 (16 : Int) < (16 : Int)) then bif eqD Ty.bool (ByteArray.toList (bytesOf (state_Bytes v2)) == ByteArray.toList (bytesOf (state_Bytes v4))) (List.getD (Prod.fst v2) (Int.toNat (Int.tmod v0 (16 : Int))) (0 : Int) == v1) then bif state_Bytes.pre v3 then knormal (↑(List.length (state_Bytes v3)) == (66 : Int)) else none else knormal false else none else none else none else knormal false else none else none
def law12_StateBytes.s2000005 {R : Type} (v0 : Int) (v1 : Int) (v2 : List Int × Int × Bool × Unit) (v3 : List Int × Int × Bool × Unit) (v4 : List Int × Int × Bool × Unit) (knormal : Bool → Option R) : Option R :=
  bif state_Bytes.pre v2 then bif state_Bytes.pre v3 then bif !eqD Ty.bool (ByteArray.toList (bytesOf (state_Bytes v2)) == ByteArray.toList (bytesOf (state_Bytes v3))) (state_Same v2 v3) || state_Bytes.pre v2 && (state_Bytes.pre v4 && (decide ((0 : Int) ≤ Int.tmod v0 (16 : Int)) && decide (Int.tmod v0 (16 : Int) < (16 : Int)) && (!eqD Ty.bool (ByteArray.toList (bytesOf (state_Bytes v2)) == ByteArray.toList (bytesOf (state_Bytes v4))) (List.getD (Prod.fst v2) (Int.toNat (Int.tmod v0 (16 : Int))) (0 : Int) == v1) || state_Bytes.pre v3))) then knormal (eqD Ty.bool (ByteArray.toList (bytesOf (state_Bytes v2)) == ByteArray.toList (bytesOf (state_Bytes v3))) (state_Same v2 v3) && (eqD Ty.bool (ByteArray.toList (bytesOf (state_Bytes v2)) == ByteArray.toList (bytesOf (state_Bytes v4))) (List.getD (Prod.fst v2) (Int.toNat (Int.tmod v0 (16 : Int))) (0 : Int) == v1) && ↑(List.length (state_Bytes v3)) == (66 : Int))) else none else none else none
theorem law12_StateBytes.s2000005_eq {R : Type} (v0 : Int) (v1 : Int) (v2 : List Int × Int × Bool × Unit) (v3 : List Int × Int × Bool × Unit) (v4 : List Int × Int × Bool × Unit) (knormal : Bool → Option R) : law12_StateBytes.s2000005 v0 v1 v2 v3 v4 knormal = law12_StateBytes.o2000005 v0 v1 v2 v3 v4 knormal := by
  unfold law12_StateBytes.s2000005 law12_StateBytes.o2000005
  (cases hc : state_Bytes.pre v2 with | false => rfl | true => (cases hc : state_Bytes.pre v3 with | false => rfl | true => (cases hc : eqD Ty.bool (ByteArray.toList (bytesOf (state_Bytes v2)) == ByteArray.toList (bytesOf (state_Bytes v3))) (state_Same v2 v3) with | false => rfl | true => (cases hc : state_Bytes.pre v4 with | false => rfl | true => (cases hc : decide ((0 : Int) ≤ Int.tmod v0 (16 : Int)) && decide (Int.tmod v0 (16 : Int) < (16 : Int)) with | false => rfl | true => (cases hc : eqD Ty.bool (ByteArray.toList (bytesOf (state_Bytes v2)) == ByteArray.toList (bytesOf (state_Bytes v4))) (List.getD (Prod.fst v2) (Int.toNat (Int.tmod v0 (16 : Int))) (0 : Int) == v1) with | false => rfl | true => rfl))))))
def law12_StateBytes.C : Cfg := { rows := [], keep := [(2000005, [2, 3, 4, 5, 9], [4, 5, 9]), (12000005, [8], [])], adopt := [] }
def law12_StateBytes.sum2000005 : FrV law12_StateBytes.T2000005.fr × StV law12_StateBytes.T2000005.st → (Ex → S → Option (List DVal)) → Option (List DVal) := fun ((v0, v1, ()), (v2, v3, v4, ())) K => law12_StateBytes.s2000005 v0 v1 v2 v3 v4 (fun e0 => K .normal (pack law12_StateBytes.X2000005_normal ((e0, ()), (()))))
def law12_StateBytes.L : Nat → Option Sum := fun i => if i = 2000005 then some (sumOf law12_StateBytes.T2000005 law12_StateBytes.sum2000005) else none
theorem law12_StateBytes.x2000005 : ∀ v (K : Ex → S → Option (List DVal)), exec1 Try.prog law12_StateBytes.C law12_StateBytes.env law12_StateBytes.L (spotOf Try.f4 2000005).2.1 (spotOf Try.f4 2000005).2.2 (pack law12_StateBytes.T2000005 v) (fun e s' => K e (trim law12_StateBytes.C (2000005 + 10000000) s')) = (fun (((v0, v1, ()), (v2, v3, v4, ())) : FrV law12_StateBytes.T2000005.fr × StV law12_StateBytes.T2000005.st) => law12_StateBytes.o2000005 v0 v1 v2 v3 v4 (fun e0 => K .normal (pack law12_StateBytes.X2000005_normal ((e0, ()), (()))))) v :=
  fun ((v0, v1, ()), (v2, v3, v4, ())) K => by kernel_rfl
theorem law12_StateBytes.sum2000005_ok : SpotOk Try.prog law12_StateBytes.C law12_StateBytes.env law12_StateBytes.L (spotOf Try.f4 2000005) := spotOk_of (T := law12_StateBytes.T2000005) (q := 2000005) (f := law12_StateBytes.sum2000005) (by kernel_rfl) (by kernel_rfl) fun ((v0, v1, ()), (v2, v3, v4, ())) K r h => (law12_StateBytes.x2000005 _ K).trans ((law12_StateBytes.s2000005_eq v0 v1 v2 v3 v4 (fun e0 => K .normal (pack law12_StateBytes.X2000005_normal ((e0, ()), (()))))).symm.trans h)
def law12_StateBytes.tree {R : Type} (a0 : List Int × Int × Bool × Unit) (a1 : List Int × Int × Bool × Unit) (a2 : Int) (a3 : Int) (ret : Bool → Option R) : Option R :=
  bif decide ((0 : Int) ≤ Int.tmod a2 (16 : Int)) && decide (Int.tmod a2 (16 : Int) < (16 : Int)) then bif state_Bytes.pre a0 then bif state_Bytes.pre a1 then bif !eqD Ty.bool (ByteArray.toList (bytesOf (state_Bytes a0)) == ByteArray.toList (bytesOf (state_Bytes a1))) (state_Same a0 a1) || state_Bytes.pre a0 && (state_Bytes.pre (List.set (Prod.fst a0) (Int.toNat (Int.tmod a2 (16 : Int))) a3, Prod.snd a0) && (decide ((0 : Int) ≤ Int.tmod a2 (16 : Int)) && decide (Int.tmod a2 (16 : Int) < (16 : Int)) && (!eqD Ty.bool (ByteArray.toList (bytesOf (state_Bytes a0)) == ByteArray.toList (bytesOf (state_Bytes (List.set (Prod.fst a0) (Int.toNat (Int.tmod a2 (16 : Int))) a3, Prod.snd a0)))) (List.getD (Prod.fst a0) (Int.toNat (Int.tmod a2 (16 : Int))) (0 : Int) == a3) || state_Bytes.pre a1))) then ret (eqD Ty.bool (ByteArray.toList (bytesOf (state_Bytes a0)) == ByteArray.toList (bytesOf (state_Bytes a1))) (state_Same a0 a1) && (eqD Ty.bool (ByteArray.toList (bytesOf (state_Bytes a0)) == ByteArray.toList (bytesOf (state_Bytes (List.set (Prod.fst a0) (Int.toNat (Int.tmod a2 (16 : Int))) a3, Prod.snd a0)))) (List.getD (Prod.fst a0) (Int.toNat (Int.tmod a2 (16 : Int))) (0 : Int) == a3) && ↑(List.length (state_Bytes a1)) == (66 : Int))) else none else none else none else none
theorem law12_StateBytes.eq (a0 : List Int × Int × Bool × Unit) (a1 : List Int × Int × Bool × Unit) (a2 : Int) (a3 : Int) : body Try.prog law12_StateBytes.C law12_StateBytes.env law12_StateBytes.L Try.f4 [⟨StT, a0⟩, ⟨StT, a1⟩, ⟨Ty.int IntKind.u8, a2⟩, ⟨Ty.int IntKind.u32, a3⟩] = law12_StateBytes.tree a0 a1 a2 a3 (fun r0 => some ([⟨Ty.bool, r0⟩] : List DVal)) := by kernel_rfl
def law12_StateBytes.pre (a b : Sta) (k v : Int) : Bool := sta_ok a && sta_ok b && decide (0 ≤ k ∧ k < 256) && u32B v
def law12_StateBytes (a b : Sta) (k v : Int) : Bool := true
theorem mem_set {l : List Int} {i : Nat} {v : Int} {P : Int → Prop} (h : ∀ x ∈ l, P x) (hv : P v) : ∀ x ∈ l.set i v, P x := fun x hx => by
  rcases List.mem_or_eq_of_mem_set hx with h1 | h1
  · exact h x h1
  · rw [h1]; exact hv
theorem sta_set {a : Sta} (h : sta_ok a = true) (i : Nat) {v : Int} (hv : U32 v) : sta_ok (a.1.set i v, a.2) = true := by
  obtain ⟨h1, h2⟩ := sta_ok_iff h
  unfold sta_ok u32B
  simp only [Bool.and_eq_true, beq_iff_eq, List.all_eq_true, decide_eq_true_eq, List.length_set]
  exact ⟨h1, mem_set h2 hv⟩
theorem set_same {l : List Int} {i : Nat} (hi : i < l.length) (v : Int) : l = l.set i v ↔ l.getD i 0 = v := by
  have e : l.getD i 0 = l[i] := by rw [List.getD_eq_getElem?_getD, List.getElem?_eq_getElem hi]; rfl
  rw [e]
  constructor
  · intro h
    have : (l.set i v)[i]'(by simpa using hi) = v := List.getElem_set_self _
    rw [← this]
    congr 1
  · intro h
    rw [← h]
    exact (List.set_getElem_self hi).symm
theorem law12_StateBytes.nice {R : Type} (a b : Sta) (k v : Int) (hp : law12_StateBytes.pre a b k v = true) (ret : Bool → Option R) : law12_StateBytes.tree a b k v ret = ret (law12_StateBytes a b k v) := by
  unfold law12_StateBytes.pre u32B at hp
  simp only [Bool.and_eq_true, decide_eq_true_eq] at hp
  obtain ⟨⟨⟨ha, hb⟩, hk⟩, hv⟩ := hp
  unfold law12_StateBytes.tree
  rw [Int.tmod_eq_emod_of_nonneg hk.1]
  have h1 : 0 ≤ k % 16 := by omega
  have h2 : k % 16 < 16 := by omega
  generalize k % 16 = j at h1 h2
  have hc := sta_set ha j.toNat hv
  have e : state_Same a (a.1.set j.toNat v, a.2) = (List.getD a.1 j.toNat 0 == v) := by
    rw [state_Same_iff, Bool.eq_iff_iff]
    simp only [and_true, decide_eq_true_eq, beq_iff_eq]
    exact set_same (by rw [(sta_ok_iff ha).1]; omega) v
  rw [decide_eq_true h1, decide_eq_true h2, sta_len ha, sta_len hb, sta_len hc, state_bytes_same ha hb, state_bytes_same ha hc, state_Bytes_len hb, e]
  unfold eqD law12_StateBytes
  simp
def law12_StateBytes.ctr : Ctr := ctrOf [StT, StT, Ty.int IntKind.u8, Ty.int IntKind.u32] fun x => .guard (law12_StateBytes.pre (x.1) (x.2.1) (x.2.2.1) (x.2.2.2.1)) (.ret [⟨Ty.bool, law12_StateBytes (x.1) (x.2.1) (x.2.2.1) (x.2.2.2.1)⟩])
theorem law12_StateBytes.known : Known Try.prog 4 law12_StateBytes.ctr :=
  known_plain law12_StateBytes.envOk mixed Try.func4 (by kernel_rfl) (by kernel_rfl) (noLoops (by kernel_rfl)) (bySpot (ids := [2000005]) (by kernel_rfl) (by intro q hq; simp only [List.mem_cons, List.not_mem_nil, or_false] at hq; subst hq; first | exact law12_StateBytes.sum2000005_ok)) fun x rs h => by
    obtain ⟨a0, a1, a2, a3, u⟩ := x
    cases u
    simp only [Cmd.val_guard, Cmd.val_ret] at h
    split at h <;> try (cases h; done)
    rename_i hp
    exact (law12_StateBytes.eq a0 a1 a2 a3).trans ((law12_StateBytes.nice a0 a1 a2 a3 hp (fun r0 => some ([⟨Ty.bool, r0⟩] : List DVal))).trans h)

/-! ### law12_StateHost -/
def law12_StateHost.env : Env := envCons 10 law12_known.ctr <| envCons 17 state_Unpack.ctr <| envCons 13 state_Pack.ctr <| envCons 11 state_Same.ctr <| envNil
theorem law12_StateHost.envOk : EnvOk Try.prog law12_StateHost.env := envOk_cons law12_known.known (envOk_cons state_Unpack.known (envOk_cons state_Pack.known (envOk_cons state_Same.known (envOk_nil _))))
def law12_StateHost.T0 : Tm := ⟨fill 0 73 [(3, Sl.data Ty.bool), (4, Sl.ptr (4 : Nat) []), (9, Sl.ptr (9 : Nat) []), (10, Sl.ptr (10 : Nat) []), (11, Sl.ptr (11 : Nat) []), (12, Sl.data (Ty.int IntKind.i64))], [{ k := (4 : Nat), t := Ty.arr (32 : Nat) (Ty.int IntKind.u32), vir := false }, { k := (9 : Nat), t := StT, vir := false }, { k := (10 : Nat), t := Ty.arr (32 : Nat) (Ty.int IntKind.u32), vir := false }, { k := (11 : Nat), t := Ty.arr (32 : Nat) (Ty.int IntKind.u32), vir := false }]⟩
def law12_StateHost.X0_ret : Tm := ⟨fill 0 73 [(3, Sl.data Ty.bool), (4, Sl.ptr (4 : Nat) []), (8, Sl.data Ty.bool), (9, Sl.ptr (9 : Nat) []), (10, Sl.ptr (10 : Nat) []), (11, Sl.ptr (11 : Nat) [])], [{ k := (4 : Nat), t := Ty.arr (32 : Nat) (Ty.int IntKind.u32), vir := false }, { k := (9 : Nat), t := StT, vir := false }, { k := (10 : Nat), t := Ty.arr (32 : Nat) (Ty.int IntKind.u32), vir := false }, { k := (11 : Nat), t := Ty.arr (32 : Nat) (Ty.int IntKind.u32), vir := false }]⟩
def law12_StateHost.X0_exit0 : Tm := ⟨fill 0 73 [(3, Sl.data Ty.bool), (4, Sl.ptr (4 : Nat) []), (9, Sl.ptr (9 : Nat) []), (10, Sl.ptr (10 : Nat) []), (11, Sl.ptr (11 : Nat) [])], [{ k := (4 : Nat), t := Ty.arr (32 : Nat) (Ty.int IntKind.u32), vir := false }, { k := (9 : Nat), t := StT, vir := false }, { k := (10 : Nat), t := Ty.arr (32 : Nat) (Ty.int IntKind.u32), vir := false }, { k := (11 : Nat), t := Ty.arr (32 : Nat) (Ty.int IntKind.u32), vir := false }]⟩
def law12_StateHost.round0 {R : Type} (v0 : Bool) (v1 : Int) (v2 : List Int) (v3 : List Int × Int × Bool × Unit) (v4 : List Int) (v5 : List Int) (next : Bool → Int → (List Int) → (List Int × Int × Bool × Unit) → (List Int) → (List Int) → Option R) (kret : Bool → Bool → (List Int) → (List Int × Int × Bool × Unit) → (List Int) → (List Int) → Option R) (kexit0 : Bool → (List Int) → (List Int × Int × Bool × Unit) → (List Int) → (List Int) → Option R) : Option R :=
  bif decide (v1 < (32 : Int)) then bif decide ((0 : Int) ≤ v1) && decide (v1 < (32 : Int)) then bif List.getD v5 (Int.toNat v1) (0 : Int) != (0 : Int) then kret v0 false v2 v3 v4 v5 else next v0 (IntKind.wrap IntKind.i64 (v1 + (1 : Int))) v2 v3 v4 v5 else none else kexit0 v0 v2 v3 v4 v5
def law12_StateHost.R0 {R : Type} (kret : Bool → Bool → (List Int) → (List Int × Int × Bool × Unit) → (List Int) → (List Int) → Option R) (kexit0 : Bool → (List Int) → (List Int × Int × Bool × Unit) → (List Int) → (List Int) → Option R) : (Bool × Int × (List Int) × (List Int × Int × Bool × Unit) × (List Int) × (List Int)) → ((Bool × Int × (List Int) × (List Int × Int × Bool × Unit) × (List Int) × (List Int)) → Option R) → Option R := fun (v0, v1, v2, v3, v4, v5) next => law12_StateHost.round0 v0 v1 v2 v3 v4 v5 (fun w0 w1 w2 w3 w4 w5 => next (w0, w1, w2, w3, w4, w5)) kret kexit0
theorem law12_StateHost.R0_eq {R : Type} (kret : Bool → Bool → (List Int) → (List Int × Int × Bool × Unit) → (List Int) → (List Int) → Option R) (kexit0 : Bool → (List Int) → (List Int × Int × Bool × Unit) → (List Int) → (List Int) → Option R) (v0 : Bool) (v1 : Int) (v2 : List Int) (v3 : List Int × Int × Bool × Unit) (v4 : List Int) (v5 : List Int) (next : (Bool × Int × (List Int) × (List Int × Int × Bool × Unit) × (List Int) × (List Int)) → Option R) : law12_StateHost.R0 kret kexit0 (v0, v1, v2, v3, v4, v5) next = law12_StateHost.round0 v0 v1 v2 v3 v4 v5 (fun w0 w1 w2 w3 w4 w5 => next (w0, w1, w2, w3, w4, w5)) kret kexit0 := rfl
def law12_StateHost.loop0 {R : Type} (v0 : Bool) (v1 : Int) (v2 : List Int) (v3 : List Int × Int × Bool × Unit) (v4 : List Int) (v5 : List Int) (kret : Bool → Bool → (List Int) → (List Int × Int × Bool × Unit) → (List Int) → (List Int) → Option R) (kexit0 : Bool → (List Int) → (List Int × Int × Bool × Unit) → (List Int) → (List Int) → Option R) : Option R := lp (law12_StateHost.R0 kret kexit0) 16 (v0, v1, v2, v3, v4, v5)
theorem law12_StateHost.loop0_ok {R : Type} (v0 : Bool) (v1 : Int) (v2 : List Int) (v3 : List Int × Int × Bool × Unit) (v4 : List Int) (v5 : List Int) (kret : Bool → Bool → (List Int) → (List Int × Int × Bool × Unit) → (List Int) → (List Int) → Option R) (kexit0 : Bool → (List Int) → (List Int × Int × Bool × Unit) → (List Int) → (List Int) → Option R) (r : R) (h : law12_StateHost.loop0 v0 v1 v2 v3 v4 v5 kret kexit0 = some r) : ∃ n, lp (law12_StateHost.R0 kret kexit0) n (v0, v1, v2, v3, v4, v5) = some r := ⟨16, h⟩
def law12_StateHost.T2000013 : Tm := ⟨fill 0 73 [(3, Sl.data Ty.bool), (4, Sl.ptr (4 : Nat) []), (9, Sl.ptr (9 : Nat) []), (10, Sl.ptr (10 : Nat) []), (11, Sl.ptr (11 : Nat) [])], [{ k := (4 : Nat), t := Ty.arr (32 : Nat) (Ty.int IntKind.u32), vir := false }, { k := (9 : Nat), t := StT, vir := false }, { k := (10 : Nat), t := Ty.arr (32 : Nat) (Ty.int IntKind.u32), vir := false }, { k := (11 : Nat), t := Ty.arr (32 : Nat) (Ty.int IntKind.u32), vir := false }]⟩
def law12_StateHost.X2000013_normal : Tm := ⟨fill 0 73 [(8, Sl.data Ty.bool)], []⟩
def law12_StateHost.o2000013 {R : Type} (v0 : Bool) (v1 : List Int) (v2 : List Int × Int × Bool × Unit) (v3 : List Int) (v4 : List Int) (knormal : Bool → Option R) : Option R :=
  bif state_Same (List.take (16 : Nat) v3 ++ List.drop (List.length (List.take (16 : Nat) v3)) (List.replicate (16 : Nat) (0 : Int)), IntKind.wrap IntKind.i64 (bitop BinOp.and IntKind.u32 (List.getD v3 (16 : Nat) (0 : Int)) (15 : Int)), v0, ()) v2 then bif eqD Ty.bool (Prod.fst (Prod.snd (Prod.snd v2))) v0 then bif List.getD v4 (16 : Nat) (0 : Int) == bitop BinOp.and IntKind.u32 (List.getD v1 (16 : Nat) (0 : Int)) (15 : Int) then bif List.getD v4 (3 : Nat) (0 : Int) == List.getD v1 (3 : Nat) (0 : Int) then knormal (List.getD v4 (15 : Nat) (0 : Int) == List.getD v1 (15 : Nat) (0 : Int)) else knormal false else knormal false else knormal false else knormal false
def law12_StateHost.s2000013 {R : Type} (v0 : Bool) (v1 : List Int) (v2 : List Int × Int × Bool × Unit) (v3 : List Int) (v4 : List Int) (knormal : Bool → Option R) : Option R :=
  knormal (state_Same (List.take (16 : Nat) v3 ++ List.drop (List.length (List.take (16 : Nat) v3)) (List.replicate (16 : Nat) (0 : Int)), IntKind.wrap IntKind.i64 (bitop BinOp.and IntKind.u32 (List.getD v3 (16 : Nat) (0 : Int)) (15 : Int)), v0, ()) v2 && (eqD Ty.bool (Prod.fst (Prod.snd (Prod.snd v2))) v0 && (List.getD v4 (16 : Nat) (0 : Int) == bitop BinOp.and IntKind.u32 (List.getD v1 (16 : Nat) (0 : Int)) (15 : Int) && (List.getD v4 (3 : Nat) (0 : Int) == List.getD v1 (3 : Nat) (0 : Int) && List.getD v4 (15 : Nat) (0 : Int) == List.getD v1 (15 : Nat) (0 : Int)))))
theorem law12_StateHost.s2000013_eq {R : Type} (v0 : Bool) (v1 : List Int) (v2 : List Int × Int × Bool × Unit) (v3 : List Int) (v4 : List Int) (knormal : Bool → Option R) : law12_StateHost.s2000013 v0 v1 v2 v3 v4 knormal = law12_StateHost.o2000013 v0 v1 v2 v3 v4 knormal := by
  unfold law12_StateHost.s2000013 law12_StateHost.o2000013
  (cases hc : state_Same (List.take (16 : Nat) v3 ++ List.drop (List.length (List.take (16 : Nat) v3)) (List.replicate (16 : Nat) (0 : Int)), IntKind.wrap IntKind.i64 (bitop BinOp.and IntKind.u32 (List.getD v3 (16 : Nat) (0 : Int)) (15 : Int)), v0, ()) v2 with | false => rfl | true => (cases hc : eqD Ty.bool (Prod.fst (Prod.snd (Prod.snd v2))) v0 with | false => rfl | true => (cases hc : List.getD v4 (16 : Nat) (0 : Int) == bitop BinOp.and IntKind.u32 (List.getD v1 (16 : Nat) (0 : Int)) (15 : Int) with | false => rfl | true => (cases hc : List.getD v4 (3 : Nat) (0 : Int) == List.getD v1 (3 : Nat) (0 : Int) with | false => rfl | true => rfl))))
def law12_StateHost.C : Cfg := { rows := [], keep := [(0, [3, 4, 9, 10, 11, 12], [4, 9, 10, 11]), (1000000, [3, 4, 8, 9, 10, 11], [4, 9, 10, 11]), (2000013, [3, 4, 9, 10, 11], [4, 9, 10, 11]), (12000013, [8], [])], adopt := [] }
def law12_StateHost.sum2000013 : FrV law12_StateHost.T2000013.fr × StV law12_StateHost.T2000013.st → (Ex → S → Option (List DVal)) → Option (List DVal) := fun ((v0, ()), (v1, v2, v3, v4, ())) K => law12_StateHost.s2000013 v0 v1 v2 v3 v4 (fun e0 => K .normal (pack law12_StateHost.X2000013_normal ((e0, ()), (()))))
def law12_StateHost.sum0 : FrV law12_StateHost.T0.fr × StV law12_StateHost.T0.st → (Ex → S → Option (List DVal)) → Option (List DVal) := fun ((v0, v1, ()), (v2, v3, v4, v5, ())) K => law12_StateHost.loop0 v0 v1 v2 v3 v4 v5 (fun e0 e1 e2 e3 e4 e5 => K .ret (pack law12_StateHost.X0_ret ((e0, e1, ()), (e2, e3, e4, e5, ())))) (fun e0 e1 e2 e3 e4 => K (.exit 0) (pack law12_StateHost.X0_exit0 ((e0, ()), (e1, e2, e3, e4, ()))))
def law12_StateHost.rnd0 : FrV law12_StateHost.T0.fr × StV law12_StateHost.T0.st → (FrV law12_StateHost.T0.fr × StV law12_StateHost.T0.st → Option (List DVal)) → (Ex → S → Option (List DVal)) → Option (List DVal) := fun ((v0, v1, ()), (v2, v3, v4, v5, ())) next K => law12_StateHost.round0 v0 v1 v2 v3 v4 v5 (fun w0 w1 w2 w3 w4 w5 => next ((w0, w1, ()), (w2, w3, w4, w5, ()))) (fun e0 e1 e2 e3 e4 e5 => K .ret (pack law12_StateHost.X0_ret ((e0, e1, ()), (e2, e3, e4, e5, ())))) (fun e0 e1 e2 e3 e4 => K (.exit 0) (pack law12_StateHost.X0_exit0 ((e0, ()), (e1, e2, e3, e4, ()))))
def law12_StateHost.L : Nat → Option Sum := fun i => if i = 0 then some (sumOf law12_StateHost.T0 law12_StateHost.sum0) else if i = 2000013 then some (sumOf law12_StateHost.T2000013 law12_StateHost.sum2000013) else none
theorem law12_StateHost.rnd0_eq : ∀ v (r : S → Option (List DVal)) (K : Ex → S → Option (List DVal)), exec Try.prog law12_StateHost.C law12_StateHost.env law12_StateHost.L 0 (loopOf Try.f5 0) (pack law12_StateHost.T0 v) (fun e s' => match e with | .normal => r (trim law12_StateHost.C 0 s') | e => K e (trim law12_StateHost.C (0 + 1000000) s')) = law12_StateHost.rnd0 v (fun v' => r (pack law12_StateHost.T0 v')) K :=
  fun ((v0, v1, ()), (v2, v3, v4, v5, ())) r K => by kernel_rfl
theorem law12_StateHost.lp0 (K : Ex → S → Option (List DVal)) : ∀ (n : Nat) (v0 : Bool) (v1 : Int) (v2 : List Int) (v3 : List Int × Int × Bool × Unit) (v4 : List Int) (v5 : List Int), lp (fun v next => law12_StateHost.rnd0 v next K) n ((v0, v1, ()), (v2, v3, v4, v5, ())) = lp (law12_StateHost.R0 (fun e0 e1 e2 e3 e4 e5 => K .ret (pack law12_StateHost.X0_ret ((e0, e1, ()), (e2, e3, e4, e5, ())))) (fun e0 e1 e2 e3 e4 => K (.exit 0) (pack law12_StateHost.X0_exit0 ((e0, ()), (e1, e2, e3, e4, ()))))) n (v0, v1, v2, v3, v4, v5) := by
  intro n
  induction n with
  | zero => intros; rfl
  | succ n ih =>
    intro v0 v1 v2 v3 v4 v5
    show law12_StateHost.round0 v0 v1 v2 v3 v4 v5 (fun w0 w1 w2 w3 w4 w5 => lp (fun v next => law12_StateHost.rnd0 v next K) n ((w0, w1, ()), (w2, w3, w4, w5, ()))) (fun e0 e1 e2 e3 e4 e5 => K .ret (pack law12_StateHost.X0_ret ((e0, e1, ()), (e2, e3, e4, e5, ())))) (fun e0 e1 e2 e3 e4 => K (.exit 0) (pack law12_StateHost.X0_exit0 ((e0, ()), (e1, e2, e3, e4, ())))) = law12_StateHost.round0 v0 v1 v2 v3 v4 v5 (fun w0 w1 w2 w3 w4 w5 => lp (law12_StateHost.R0 (fun e0 e1 e2 e3 e4 e5 => K .ret (pack law12_StateHost.X0_ret ((e0, e1, ()), (e2, e3, e4, e5, ())))) (fun e0 e1 e2 e3 e4 => K (.exit 0) (pack law12_StateHost.X0_exit0 ((e0, ()), (e1, e2, e3, e4, ()))))) n (w0, w1, w2, w3, w4, w5)) (fun e0 e1 e2 e3 e4 e5 => K .ret (pack law12_StateHost.X0_ret ((e0, e1, ()), (e2, e3, e4, e5, ())))) (fun e0 e1 e2 e3 e4 => K (.exit 0) (pack law12_StateHost.X0_exit0 ((e0, ()), (e1, e2, e3, e4, ()))))
    simp only [ih]
theorem law12_StateHost.sum0_ok : SumOk Try.prog law12_StateHost.C law12_StateHost.env law12_StateHost.L 0 (loopOf Try.f5 0) := sumOk_lp (T := law12_StateHost.T0) (rnd := law12_StateHost.rnd0) (f := law12_StateHost.sum0) rfl law12_StateHost.rnd0_eq fun ((v0, v1, ()), (v2, v3, v4, v5, ())) K r h => by
  obtain ⟨n, hn⟩ := law12_StateHost.loop0_ok v0 v1 v2 v3 v4 v5 (fun e0 e1 e2 e3 e4 e5 => K .ret (pack law12_StateHost.X0_ret ((e0, e1, ()), (e2, e3, e4, e5, ())))) (fun e0 e1 e2 e3 e4 => K (.exit 0) (pack law12_StateHost.X0_exit0 ((e0, ()), (e1, e2, e3, e4, ())))) r h
  exact ⟨n, by rw [law12_StateHost.lp0]; exact hn⟩
theorem law12_StateHost.x2000013 : ∀ v (K : Ex → S → Option (List DVal)), exec1 Try.prog law12_StateHost.C law12_StateHost.env law12_StateHost.L (spotOf Try.f5 2000013).2.1 (spotOf Try.f5 2000013).2.2 (pack law12_StateHost.T2000013 v) (fun e s' => K e (trim law12_StateHost.C (2000013 + 10000000) s')) = (fun (((v0, ()), (v1, v2, v3, v4, ())) : FrV law12_StateHost.T2000013.fr × StV law12_StateHost.T2000013.st) => law12_StateHost.o2000013 v0 v1 v2 v3 v4 (fun e0 => K .normal (pack law12_StateHost.X2000013_normal ((e0, ()), (()))))) v :=
  fun ((v0, ()), (v1, v2, v3, v4, ())) K => by kernel_rfl
theorem law12_StateHost.sum2000013_ok : SpotOk Try.prog law12_StateHost.C law12_StateHost.env law12_StateHost.L (spotOf Try.f5 2000013) := spotOk_of (T := law12_StateHost.T2000013) (q := 2000013) (f := law12_StateHost.sum2000013) (by kernel_rfl) (by kernel_rfl) fun ((v0, ()), (v1, v2, v3, v4, ())) K r h => (law12_StateHost.x2000013 _ K).trans ((law12_StateHost.s2000013_eq v0 v1 v2 v3 v4 (fun e0 => K .normal (pack law12_StateHost.X2000013_normal ((e0, ()), (()))))).symm.trans h)
def law12_StateHost.tree {R : Type} (a0 : List Int) (a1 : Int) (a2 : Int) (a3 : Bool) (ret : Bool → Option R) : Option R :=
  bif decide ((0 : Int) ≤ IntKind.wrap IntKind.u8 ((17 : Int) + Int.tmod a1 (15 : Int))) && decide (IntKind.wrap IntKind.u8 ((17 : Int) + Int.tmod a1 (15 : Int)) < (32 : Int)) then law12_StateHost.loop0 a3 (17 : Int) a0 (List.take (16 : Nat) a0 ++ List.drop (List.length (List.take (16 : Nat) a0)) (List.replicate (16 : Nat) (0 : Int)), IntKind.wrap IntKind.i64 (bitop BinOp.and IntKind.u32 (List.getD a0 (16 : Nat) (0 : Int)) (15 : Int)), a3, ()) (List.set (List.set a0 (Int.toNat (IntKind.wrap IntKind.u8 ((17 : Int) + Int.tmod a1 (15 : Int)))) a2) (16 : Nat) (bitop BinOp.or IntKind.u32 (List.getD a0 (16 : Nat) (0 : Int)) (bitop BinOp.andNot IntKind.u32 a2 (15 : Int)))) (state_Pack (List.take (16 : Nat) a0 ++ List.drop (List.length (List.take (16 : Nat) a0)) (List.replicate (16 : Nat) (0 : Int)), IntKind.wrap IntKind.i64 (bitop BinOp.and IntKind.u32 (List.getD a0 (16 : Nat) (0 : Int)) (15 : Int)), a3, ())) (fun e0 e1 e2 e3 e4 e5 => ret e1) fun e0 e1 e2 e3 e4 => ret (state_Same (List.take (16 : Nat) e3 ++ List.drop (List.length (List.take (16 : Nat) e3)) (List.replicate (16 : Nat) (0 : Int)), IntKind.wrap IntKind.i64 (bitop BinOp.and IntKind.u32 (List.getD e3 (16 : Nat) (0 : Int)) (15 : Int)), e0, ()) e2 && (eqD Ty.bool (Prod.fst (Prod.snd (Prod.snd e2))) e0 && (List.getD e4 (16 : Nat) (0 : Int) == bitop BinOp.and IntKind.u32 (List.getD e1 (16 : Nat) (0 : Int)) (15 : Int) && (List.getD e4 (3 : Nat) (0 : Int) == List.getD e1 (3 : Nat) (0 : Int) && List.getD e4 (15 : Nat) (0 : Int) == List.getD e1 (15 : Nat) (0 : Int))))) else none
theorem law12_StateHost.eq (a0 : List Int) (a1 : Int) (a2 : Int) (a3 : Bool) : body Try.prog law12_StateHost.C law12_StateHost.env law12_StateHost.L Try.f5 [⟨Ty.arr (32 : Nat) (Ty.int IntKind.u32), a0⟩, ⟨Ty.int IntKind.u8, a1⟩, ⟨Ty.int IntKind.u32, a2⟩, ⟨Ty.bool, a3⟩] = law12_StateHost.tree a0 a1 a2 a3 (fun r0 => some ([⟨Ty.bool, r0⟩] : List DVal)) := by kernel_rfl
theorem ofInt_toNat {n : Nat} (z : BitVec n) : BitVec.ofInt n (z.toNat : Int) = z := by
  rw [BitVec.ofInt_natCast, BitVec.ofNat_toNat]
  simp
theorem bitop_u32 {op : BinOp} {x y : Int} {z : BitVec 32} (h : bitop op .u32 x y = IntKind.wrap .u32 (z.toNat : Int)) : bitop op .u32 x y = (z.toNat : Int) := by
  rw [h, IntKind.wrap_u32]
  have := z.isLt
  omega
theorem host_flags (x v : Int) : bitop .and .u32 (bitop .or .u32 x (bitop .andNot .u32 v 15)) 15 = bitop .and .u32 x 15 := by
  have h1 : bitop .andNot .u32 v 15 = ((BitVec.ofInt 32 v &&& ~~~15#32).toNat : Int) := bitop_u32 rfl
  have h2 : bitop .or .u32 x (bitop .andNot .u32 v 15) = ((BitVec.ofInt 32 x ||| (BitVec.ofInt 32 v &&& ~~~15#32)).toNat : Int) := by
    rw [h1]
    refine bitop_u32 ?_
    show IntKind.wrap .u32 ((BitVec.ofInt 32 x ||| BitVec.ofInt 32 ((BitVec.ofInt 32 v &&& ~~~15#32).toNat : Int)).toNat : Int) = _
    rw [ofInt_toNat]
  rw [h2]
  show IntKind.wrap .u32 ((BitVec.ofInt 32 ((BitVec.ofInt 32 x ||| (BitVec.ofInt 32 v &&& ~~~15#32)).toNat : Int) &&& 15#32).toNat : Int) = IntKind.wrap .u32 ((BitVec.ofInt 32 x &&& 15#32).toNat : Int)
  rw [ofInt_toNat]
  congr 3
  apply BitVec.eq_of_getLsbD_eq
  intro i hi
  simp only [BitVec.getLsbD_and, BitVec.getLsbD_or, BitVec.getLsbD_not, hi, decide_true, Bool.true_and]
  cases (BitVec.ofInt 32 x).getLsbD i <;> cases (BitVec.ofInt 32 v).getLsbD i <;> cases (15#32).getLsbD i <;> rfl
theorem and15_again {m : Int} (h0 : 0 ≤ m) (h1 : m ≤ 15) : IntKind.wrap .u32 (bitop .and .i64 (IntKind.wrap .i64 m) 15) = m := by
  rcases (by omega : m = 0 ∨ m = 1 ∨ m = 2 ∨ m = 3 ∨ m = 4 ∨ m = 5 ∨ m = 6 ∨ m = 7 ∨ m = 8 ∨ m = 9 ∨ m = 10 ∨ m = 11 ∨ m = 12 ∨ m = 13 ∨ m = 14 ∨ m = 15) with rfl | rfl | rfl | rfl | rfl | rfl | rfl | rfl | rfl | rfl | rfl | rfl | rfl | rfl | rfl | rfl <;> rfl
def law12_StateHost.pre (r : List Int) (k v : Int) (h : Bool) : Bool := r.length == 32 && decide (0 ≤ k ∧ k < 256)
def law12_StateHost (r : List Int) (k v : Int) (h : Bool) : Bool := true
theorem law12_StateHost.nice {R : Type} (r : List Int) (k v : Int) (h : Bool) (hp : law12_StateHost.pre r k v h = true) (ret : Bool → Option R) : law12_StateHost.tree r k v h ret = ret (law12_StateHost r k v h) := by
  unfold law12_StateHost.pre at hp
  simp only [Bool.and_eq_true, decide_eq_true_eq, beq_iff_eq] at hp
  obtain ⟨hl, hk⟩ := hp
  obtain ⟨x0, x1, x2, x3, x4, x5, x6, x7, x8, x9, x10, x11, x12, x13, x14, x15, x16, x17, x18, x19, x20, x21, x22, x23, x24, x25, x26, x27, x28, x29, x30, x31, hl⟩ := len32 hl
  subst hl
  have hB : (state_Same ([x0, x1, x2, x3, x4, x5, x6, x7, x8, x9, x10, x11, x12, x13, x14, x15], IntKind.wrap .i64 (bitop .and .u32 (bitop .or .u32 x16 (bitop .andNot .u32 v 15)) 15), h, ()) ([x0, x1, x2, x3, x4, x5, x6, x7, x8, x9, x10, x11, x12, x13, x14, x15], IntKind.wrap .i64 (bitop .and .u32 x16 15), h, ()) && (eqD .bool h h && (IntKind.wrap .u32 (bitop .and .i64 (IntKind.wrap .i64 (bitop .and .u32 x16 15)) 15) == bitop .and .u32 x16 15 && (x3 == x3 && x15 == x15)))) = true := by
    have b : 0 ≤ bitop .and .u32 x16 15 ∧ bitop .and .u32 x16 15 ≤ 15 := bitop_and_small (k := .u32) (.inr (.inl rfl)) x16 15 (by omega)
    rw [host_flags, state_Same_iff, and15_again b.1 b.2]
    simp [eqD]
  unfold law12_StateHost.tree
  have hj : IntKind.wrap IntKind.u8 ((17 : Int) + Int.tmod k (15 : Int)) = 17 + k % 15 := by
    rw [Int.tmod_eq_emod_of_nonneg hk.1, IntKind.wrap_u8]
    omega
  rw [hj]
  have h1 : 17 ≤ 17 + k % 15 := by omega
  have h2 : 17 + k % 15 < 32 := by omega
  generalize 17 + k % 15 = j at h1 h2
  rcases (by omega : j = 17 ∨ j = 18 ∨ j = 19 ∨ j = 20 ∨ j = 21 ∨ j = 22 ∨ j = 23 ∨ j = 24 ∨ j = 25 ∨ j = 26 ∨ j = 27 ∨ j = 28 ∨ j = 29 ∨ j = 30 ∨ j = 31) with rfl | rfl | rfl | rfl | rfl | rfl | rfl | rfl | rfl | rfl | rfl | rfl | rfl | rfl | rfl <;> (refine Eq.trans ?_ (congrArg ret hB); kernel_rfl)

def law12_StateHost.ctr : Ctr := ctrOf [Ty.arr (32 : Nat) (Ty.int IntKind.u32), Ty.int IntKind.u8, Ty.int IntKind.u32, Ty.bool] fun x => .guard (law12_StateHost.pre (x.1) (x.2.1) (x.2.2.1) (x.2.2.2.1)) (.ret [⟨Ty.bool, law12_StateHost (x.1) (x.2.1) (x.2.2.1) (x.2.2.2.1)⟩])
theorem law12_StateHost.known : Known Try.prog 5 law12_StateHost.ctr :=
  known_plain law12_StateHost.envOk mixed Try.func5 (by kernel_rfl) (by kernel_rfl) (byId (by kernel_rfl : loopIds Try.f5 = [0]) (by intro q hq; simp only [List.mem_cons, List.not_mem_nil, or_false] at hq; subst hq; first | exact law12_StateHost.sum0_ok)) (bySpot (ids := [2000013]) (by kernel_rfl) (by intro q hq; simp only [List.mem_cons, List.not_mem_nil, or_false] at hq; subst hq; first | exact law12_StateHost.sum2000013_ok)) fun x rs h => by
    obtain ⟨a0, a1, a2, a3, u⟩ := x
    cases u
    simp only [Cmd.val_guard, Cmd.val_ret] at h
    split at h <;> try (cases h; done)
    rename_i hp
    exact (law12_StateHost.eq a0 a1 a2 a3).trans ((law12_StateHost.nice a0 a1 a2 a3 hp (fun r0 => some ([⟨Ty.bool, r0⟩] : List DVal))).trans h)
end
end Go.D.Ytmdnddoiopgboaa
