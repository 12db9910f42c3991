/- The abstract machine D, part I: its operations are the machine's. -/
import Derived.Test.YtmdnddoiopgboaaDoorDH
namespace Go.D
set_option linter.unusedSimpArgs false
set_option linter.unusedVariables false

variable {F F' : Nat → Nat → Prop} {w w' w2 : World} {P : Program} {st st' : St} {L L' : Nat → RLoc} {B B' : Nat → List Nat} {B0 : Base} {F0 : Nat → Nat → Prop} {w0 : World}

inductive RelDs (F : Nat → Nat → Prop) (w : World) : List DVal → List Value → Prop where
  | nil : RelDs F w [] []
  | cons {d : DVal} {ds : List DVal} {v : Value} {vs : List Value} (h : RelD F w d v) (t : RelDs F w ds vs) : RelDs F w (d :: ds) (v :: vs)
theorem RelDs.keep (hF : ∀ b j, F b j → F' b j) (hw : ∀ b j, F b j → w'.cell? ⟨b, j, none⟩ = w.cell? ⟨b, j, none⟩) {ds : List DVal} {vs : List Value} (h : RelDs F w ds vs) : RelDs F' w' ds vs := by
  induction h with
  | nil => exact .nil
  | cons h _ ih => exact .cons (h.keep hF hw) ih
theorem RelDs.length {ds : List DVal} {vs : List Value} (h : RelDs F w ds vs) : vs.length = ds.length := by
  induction h with
  | nil => rfl
  | cons _ _ ih => simp [ih]
theorem RelDs.at_ {ds : List DVal} {vs : List Value} (h : RelDs F w ds vs) : ∀ (i : Nat) (d : DVal), ds[i]? = some d → ∃ u : Value, vs[i]? = some u ∧ RelD F w d u := by
  induction h with
  | nil => intro i d h; simp at h
  | cons h _ ih =>
    intro i d hd
    cases i with
    | zero => simp at hd; subst hd; exact ⟨_, rfl, h⟩
    | succ i => exact ih i d (by simpa using hd)

/-- what a call hands back -/
def resV (vs : List Value) : Value := match vs with
  | [v] => v
  | l => .tuple l.toArray

/-- the arguments; the blocks of the first one, where that is an object that is handed over -/
def ArgsO (F : Nat → Nat → Prop) (w : World) : List DVal → List Value → List Nat → Prop
  | ⟨.box t, x⟩ :: ds, v :: vs, bs => Rel F w (.box t) x [v] bs ∧ RelDs F w ds vs
  | ds, vs, bs => bs = [] ∧ RelDs F w ds vs
/-- the results: data, or a new object -/
def ResP (F : Nat → Nat → Prop) (w : World) (rs : List DVal) (rvs : List Value) (bs : List Nat) : Prop :=
  (bs = [] ∧ RelDs F w rs rvs) ∨ (∃ u x v, rs = [⟨.box u, x⟩] ∧ rvs = [v] ∧ Rel F w (.box u) x [v] bs) ∨ ∃ u x v, u.pure = true ∧ rs = [⟨.own u, x⟩] ∧ rvs = [v] ∧ Rel F w (.own u) x [v] bs
/-- the results, and what was handed over -/
def ResO (F : Nat → Nat → Prop) (w : World) : List DVal → List Value → List DVal → List Value → List Nat → Prop
  | ⟨.box t, _⟩ :: _, v :: _, rs, rvs, bs => ∃ x' rs', rs = ⟨.box t, x'⟩ :: rs' ∧ Rel F w (.box t) x' [v] bs ∧ RelDs F w rs' rvs
  | _, _, rs, rvs, bs => ResP F w rs rvs bs
/-- the world has new blocks; of the old ones, those of 'bs' may have changed -/
structure NewO (bs : List Nat) (w w' : World) : Prop where
  os : w'.os = w.os
  tape : w'.tape = w.tape
  output : w'.output = w.output
  size : w.heap.size ≤ w'.heap.size
  old : ∀ b, b < w.heap.size → b ∉ bs → w'.heap[b]? = w.heap[b]?
theorem NewO.new (h : NewO [] w w') : New w w' := ⟨h.os, h.tape, h.output, h.size, fun b hb => h.old b hb (by simp)⟩
theorem relD_box {t : Ty} {x : t.den} {v : Value} : ¬ RelD F w ⟨.box t, x⟩ v := by
  rintro ⟨cs, _, g, cur, tag, bs', _, e, _⟩
  cases e
theorem RelDs.args {ds : List DVal} {vs : List Value} (h : RelDs F w ds vs) : ArgsO F w ds vs [] := by
  cases h with
  | nil => exact ⟨rfl, .nil⟩
  | @cons d ds v vs h1 h2 =>
    obtain ⟨t, x⟩ := d
    cases t <;> first | exact ⟨rfl, .cons h1 h2⟩ | exact absurd h1 relD_box
theorem RelDs.res {F' : Nat → Nat → Prop} {w' : World} {ds : List DVal} {vs : List Value} (h : RelDs F w ds vs) {rs : List DVal} {rvs : List Value} {bs : List Nat} (hr : ResO F' w' ds vs rs rvs bs) : ResP F' w' rs rvs bs := by
  cases h with
  | nil => exact hr
  | @cons d ds v vs h1 h2 =>
    obtain ⟨t, x⟩ := d
    cases t <;> first | exact hr | exact absurd h1 relD_box

def Contract (P : Program) (f : FuncId) (c : Ctr) : Prop :=
  ∀ ds rs, (c.run ds).val = some rs → ∀ (F : Nat → Nat → Prop) (w : World) (vs : List Value) (bs : List Nat), (∀ b j, F b j → b < w.heap.size) → GlobOk F w → ArgsO F w ds vs bs → bs.Nodup → (∀ b ∈ bs, ∀ j, ¬ F b j) →
    Calls P f vs.toArray w fun e w' => ∃ F' rvs bs', e = .returned (resV rvs) ∧ NewO bs w w' ∧ (∀ b j, F b j → F' b j) ∧ (∀ b j, F' b j → F b j ∨ b ∈ bs ∨ (w.heap.size ≤ b ∧ b < w'.heap.size)) ∧
      ResO F' w' ds vs rs rvs bs' ∧ bs'.Nodup ∧ (∀ b ∈ bs', b ∈ bs ∨ w.heap.size ≤ b) ∧ ∀ b ∈ bs', ∀ j, ¬ F' b j

structure EnvOk (P : Program) (env : Env) : Prop where
  fn : ∀ f c, env f = some c → ∃ fn, P.funcs[f]? = some fn ∧ (fn.name == "runtime.NumGoroutine") = false ∧ fn.body.isSome = true
  ct : ∀ f c, env f = some c → Contract P f c

inductive Does (P : Program) (o : Oper) (a : Act) (w : World) (post : Value → World → Prop) : Prop where
  | value (rv : Value) (w' : World) (h : (execOp a.eval o).run P w = .ok (.value rv) w') (hp : post rv w')
  | skip (w' : World) (h : (execOp a.eval o).run P w = .ok .skip w') (hp : post undef w')
  | enter (f : FuncId) (args : Array Value) (w1 : World) (h : (execOp a.eval o).run P w = .ok (.enter f args) w1) (hc : Calls P f args w1 fun e w' => ∃ rv, e = .returned rv ∧ post rv w')

theorem Does.wp {o : Oper} {a : Act} {post : Value → World → Prop} {K : Act → World → Prop} {Q : Exit → Act → World → Prop} (h : Does P o a w post) (hK : ∀ rv w', post rv w' → K (a.put o.dst rv) w') : o.wp P a w K Q := by
  unfold Oper.wp
  cases h with
  | value rv w' h hp => rw [h]; exact hK rv w' hp
  | skip w' h hp => rw [h]; exact hK undef w' hp
  | enter f args w1 h hc =>
    rw [h]
    exact hc.mono fun e w' ⟨rv, he, hp⟩ => by subst he; exact hK rv w' hp

/-- the operand's resolved form, and what it stands for -/
structure Opd (F : Nat → Nat → Prop) (w : World) (st : St) (L : Nat → RLoc) (r : RV) (v : Value) : Prop where
  rel : RelV F w st L r.dv v
  ptr : ∀ k p o, r = .ptr k p o → st.get k = some o
  asl : ∀ k p o, r = .asl k p o → st.get k = some o
  ref : ∀ k o, r = .ref k o → st.get k = some o
  rref : ∀ k p o, r = .rref k p o → st.get k = some o
theorem FR.opd {fr : List DV} {a : Act} (h : FR F w st L fr a) (x : Operand) : Opd F w st L (resolve st (dval fr x)) (a.eval x) :=
  ⟨h.rv x, fun _ _ _ e => (resolve_ptr e).2, fun _ _ _ e => (resolve_asl e).2, fun _ _ e => (resolve_ref e).2, fun _ _ _ e => (resolve_rref e).2⟩

section
variable {fr : List DV} {a : Act} {C : Cfg} {env : Env}

theorem run_v {s : Sem Value} {rv : Value} {w w' : World} (h : s.run P w = .ok rv w') : (do pure (Next.value (← s)) : Sem Next).run P w = .ok (.value rv) w' := by
  simp [h]
theorem run_u {s : Sem Unit} {w w' : World} (h : s.run P w = .ok () w') : (do s; pure Next.skip : Sem Next).run P w = .ok .skip w' := by
  simp [h]

/-- an operation that makes a value of what is there -/
theorem Does.of_value {s : S} {o : Oper} {v : DV} {s' : S} {sv : Sem Value} (hC : Core B0 F0 w0 s.st s.fr a w F L B) (ha : apply o.dst s (v, .none) = some s') (he : execOp a.eval o = (do pure (Next.value (← sv)) : Sem Next)) {rv : Value}
    (hr : sv.run P w = .ok rv w) (hv : RelV F w s.st L v rv) : Does P o a w fun rv w' => Abs B0 F0 w0 s' (a.put o.dst rv) w' := by
  simp only [apply, Option.some.injEq] at ha
  subst ha
  exact .value rv w (by rw [he]; exact run_v hr) (hC.value hv).abs

theorem op_move {s : S} {o : Oper} {x : Operand} {ve : DV × Eff} {s' : S} (hC : Core B0 F0 w0 s.st s.fr a w F L B) (ho : o.op = .move x ∨ o.op = .assign x) (h : (dop P C env o (fun x => resolve s.st (dval s.fr x))).val = some ve) (ha : apply o.dst s ve = some s') :
    Does P o a w fun rv w' => Abs B0 F0 w0 s' (a.put o.dst rv) w' := by
  have hx := hC.fr.opd x
  have h2 : ve = ((resolve s.st (dval s.fr x)).dv, .none) := by
    rcases ho with ho | ho <;> simp only [dop, ho, Cmd.val_ret, Option.some.injEq] at h <;> exact h.symm
  subst h2
  simp only [apply, Option.some.injEq] at ha
  subst ha
  refine .value (a.eval x) w ?_ (hC.value hx.rel).abs
  rcases ho with ho | ho <;> simp [execOp, ho]

theorem op_pick {s : S} {o : Oper} {c x y : Operand} {ve : DV × Eff} {s' : S} (hC : Core B0 F0 w0 s.st s.fr a w F L B) (ho : o.op = .pick c x y) (h : (dop P C env o (fun x => resolve s.st (dval s.fr x))).val = some ve) (ha : apply o.dst s ve = some s') :
    Does P o a w fun rv w' => Abs B0 F0 w0 s' (a.put o.dst rv) w' := by
  have hc := hC.fr.opd c
  simp only [dop, ho] at h
  split at h <;> try (cases h; done)
  · rename_i e
    rw [e] at hc
    have hb := relD_bool.1 hc.rel
    simp only [Cmd.val_ret, Option.some.injEq] at h
    subst h
    simp only [apply, Option.some.injEq] at ha
    subst ha
    exact .value (a.eval x) w (by simp [execOp, ho, hb, asBool]) (hC.value (hC.fr.opd x).rel).abs
  · rename_i e
    rw [e] at hc
    have hb := relD_bool.1 hc.rel
    simp only [Cmd.val_ret, Option.some.injEq] at h
    subst h
    simp only [apply, Option.some.injEq] at ha
    subst ha
    exact .value (a.eval y) w (by simp [execOp, ho, hb, asBool]) (hC.value (hC.fr.opd y).rel).abs

theorem box_at (hs : Sim B0 F w st L B) {k : Nat} {t : Ty} {x : t.den} {z : Nat} {v : Value} (hx : Opd F w st L (.ref k ⟨.box t, x, true, z⟩) v) : ∃ g, v = .pointer (some ⟨g, 0, none⟩) ∧ LocR w (.box t) (L k) [.de] g 0 := by
  have hk := hx.ref k _ rfl
  obtain ⟨ob, e1, e2, e3⟩ := hx.rel
  have ho := hs.obj k _ hk
  rw [e3] at ho ⊢
  obtain ⟨_, g, cur, tag, bs', f1, _⟩ := ho
  have f1 : v = .pointer (some ⟨g, 0, none⟩) := by simpa using f1
  exact ⟨g, f1, g, f1, rfl, rfl⟩
theorem run_equalIn_nil (d : Nat) {T e : TypeId} {A : Addr} (hu : P.underlying T = some (.pointer e)) : (Op.equalIn (d + 1) T (.pointer (some A)) (.pointer none)).run P w = .ok false w := by
  unfold Op.equalIn
  simp [run_underlying hu]
theorem run_equal_nil {T e : TypeId} {A : Addr} (hu : P.underlying T = some (.pointer e)) : (Op.equal T (.pointer (some A)) (.pointer none)).run P w = .ok false w := run_equalIn_nil 9999 hu
theorem nilEq_run {b : BinOp} {T : TypeId} {y : Operand} {ve : DV × Eff} {A : Addr} {x : Operand} (h : (nilEq P b T y).val = some ve) :
    ∃ v, (do eqGuard b T x y (.pointer (some A)) (a.eval y); binOp b T (.pointer (some A)) (a.eval y) : Sem Value).run P w = .ok (.bool v) w ∧ ve = (.data ⟨.bool, v⟩, .none) := by
  unfold nilEq at h
  split at h <;> try (cases h; done)
  · rename_i e hu
    cases h
    exact ⟨false, by simp [eqGuard, binOp, run_equal_nil hu, Act.eval], rfl⟩
  · rename_i e hu
    cases h
    exact ⟨true, by simp [eqGuard, binOp, run_equal_nil hu, Act.eval], rfl⟩
theorem op_nilEq {s : S} {o : Oper} {b : BinOp} {T Ty2 : TypeId} {x y : Operand} {ve : DV × Eff} {s' : S} {A : Addr} (hC : Core B0 F0 w0 s.st s.fr a w F L B) (ho : o.op = .binOp b T x y Ty2) (h : (nilEq P b T y).val = some ve) (hA : a.eval x = .pointer (some A)) (ha : apply o.dst s ve = some s') :
    Does P o a w fun rv w' => Abs B0 F0 w0 s' (a.put o.dst rv) w' := by
  obtain ⟨v, hr, rfl⟩ := nilEq_run (a := a) (w := w) (x := x) (A := A) h
  exact .of_value hC ha (sv := do eqGuard b T x y (a.eval x) (a.eval y); binOp b T (a.eval x) (a.eval y)) (by simp only [execOp, ho]) (by rw [hA]; exact hr) ⟨_, rfl, rfl, rfl⟩
theorem op_binOp {s : S} {o : Oper} {b : BinOp} {T Ty2 : TypeId} {x y : Operand} {ve : DV × Eff} {s' : S} (hC : Core B0 F0 w0 s.st s.fr a w F L B) (ho : o.op = .binOp b T x y Ty2) (h : (dop P C env o (fun x => resolve s.st (dval s.fr x))).val = some ve) (ha : apply o.dst s ve = some s') :
    Does P o a w fun rv w' => Abs B0 F0 w0 s' (a.put o.dst rv) w' := by
  have hx := hC.fr.opd x
  have hy := hC.fr.opd y
  simp only [dop, ho] at h
  split at h <;> try (cases h; done)
  · rename_i d1 d2 e1 e2
    rw [e1] at hx
    rw [e2] at hy
    rw [Cmd.val_map, Option.map_eq_some_iff] at h
    obtain ⟨d, h, rfl⟩ := h
    obtain ⟨v, hr, hv⟩ := binop_spec x y h hx.rel hy.rel
    exact .of_value hC ha (by simp only [execOp, ho]) hr hv
  · rename_i k t bx bz e1 e2
    rw [e1] at hx
    obtain ⟨g, e5, _⟩ := box_at hC.sim hx
    exact op_nilEq hC ho h e5 ha
  · rename_i d e1 e2
    rw [e1] at hx
    obtain ⟨b, oo, cs, e5, _⟩ := hx.rel
    exact op_nilEq hC ho h e5 ha

theorem op_unOp {s : S} {o : Oper} {b : UnOp} {T : TypeId} {x : Operand} {ve : DV × Eff} {s' : S} (hC : Core B0 F0 w0 s.st s.fr a w F L B) (ho : o.op = .unOp b T x) (h : (dop P C env o (fun x => resolve s.st (dval s.fr x))).val = some ve) (ha : apply o.dst s ve = some s') :
    Does P o a w fun rv w' => Abs B0 F0 w0 s' (a.put o.dst rv) w' := by
  have hx := hC.fr.opd x
  simp only [dop, ho] at h
  split at h <;> try (cases h; done)
  rename_i d1 e1
  rw [e1] at hx
  rw [Cmd.val_map, Option.map_eq_some_iff] at h
  obtain ⟨d, h, rfl⟩ := h
  obtain ⟨v, hr, hv⟩ := unop_spec h hx.rel
  exact .of_value hC ha (by simp only [execOp, ho]) hr hv

theorem op_extract {s : S} {o : Oper} {i : Nat} {x : Operand} {ve : DV × Eff} {s' : S} (hC : Core B0 F0 w0 s.st s.fr a w F L B) (ho : o.op = .extract x i) (h : (dop P C env o (fun x => resolve s.st (dval s.fr x))).val = some ve) (ha : apply o.dst s ve = some s') :
    Does P o a w fun rv w' => Abs B0 F0 w0 s' (a.put o.dst rv) w' := by
  have hx := hC.fr.opd x
  simp only [dop, ho] at h
  split at h <;> try (cases h; done)
  rename_i l e1
  rw [e1] at hx
  split at h <;> try (cases h; done)
  rename_i d e2
  simp only [Cmd.val_ret, Option.some.injEq] at h
  subst h
  obtain ⟨vs, e, h1, h2⟩ := hx.rel
  obtain ⟨u, hu, hr⟩ := h2 i d e2
  exact .of_value hC ha (sv := Instr.extract (a.eval x) i) (by simp [execOp, ho]) (rv := u) (by simp [Instr.extract, e, hu]) hr

theorem ptr_at {k : Nat} {p : List Step} {ob : DObj} {v : Value} (h : RelV F w st L (.ptr k p) v) (hk : st.get k = some ob) : ∃ g o, v = .pointer (some ⟨g, o, none⟩) ∧ Valid p ob.t ob.x ∧ LocR w ob.t (L k) p g o := by
  obtain ⟨ob', g, o, e1, e2, e3, e4⟩ := h
  rw [hk] at e1
  injection e1 with e1
  subst e1
  exact ⟨g, o, e2, e3, e4⟩

/-- what lies at a place -/
theorem place_at (hs : Sim B0 F w st L B) {k : Nat} {ob : DObj} (hk : st.get k = some ob) {p : List Step} {g o : Nat} (hv : Valid p ob.t ob.x) (hl : LocR w ob.t (L k) p g o) {d : DVal} (hg : get p ob.t ob.x = some d) :
    (ob.vir = true → p ≠ []) → ∃ cs bs, Rel F w d.t d.x cs bs ∧ HoldsAt w g o cs := by
  intro hne
  have ho := hs.obj k ob hk
  obtain ⟨t, x, vir, z⟩ := ob
  cases hL : L k with
  | mem g0 off =>
    rw [hL] at ho hl
    cases vir
    · obtain ⟨h1, h2, cs, h3, h4⟩ := ho
      obtain ⟨cs', bs', k1, k2, k3⟩ := get_spec p t x cs [] g0 off g o d h4 h3 hv hl hg
      exact ⟨cs', bs', k1, k2⟩
    · cases t <;> exact ho.elim
  | hdr v =>
    rw [hL] at ho hl
    cases vir
    · exact ho.elim
    · cases t <;> try exact ho.elim
      · exact hl.elim
      · exact hl.elim
      · exact hl.elim
      rotate_left
      · rename_i t
        cases p with
        | nil => exact hl.elim
        | cons s q =>
          cases s <;> try exact hl.elim
          obtain ⟨g1, hv1, hl⟩ := hl
          obtain ⟨hnd, g2, cur, tag, bs', e1, e2, e3, e4⟩ := ho
          have e5 : v = .pointer (some ⟨g2, 0, none⟩) := by simpa using e1
          rw [hv1] at e5
          injection e5 with e5
          injection e5 with e5
          injection e5 with e5 _ _
          subst e5
          obtain ⟨cs', bs2, k1, k2, k3⟩ := get_spec q t x _ _ g1 0 g o d e4 (.whole e3) hv hl hg
          exact ⟨cs', bs2, k1, k2⟩
      rename_i t
      cases p with
      | nil => exact absurd rfl (hne rfl)
      | cons s q =>
        cases s <;> try exact hl.elim
        rename_i i
        obtain ⟨⟨h1, _⟩, h2⟩ := ho
        obtain ⟨hi, hvq⟩ := hv
        rcases own_open h1 h2 with ⟨e, _⟩ | ⟨g1, cap, cur, tag, e1, e2, e3, e4, e5, e6, e7⟩
        · subst e; simp at hi
        · obtain ⟨g2, n, cc, e8, hl⟩ := hl
          rw [e1] at e8
          injection e8 with e8
          injection e8 with e8
          injection e8 with e8 _ _
          subst e8
          have hh : HoldsAt w g1 0 (cur.toList.take (List.length x * t.size)) := ⟨cur, tag, [], cur.toList.drop (List.length x * t.size), e3, by simp, rfl⟩
          obtain ⟨cs', bs', k1, k2, k3⟩ := get_spec (.idx i :: q) (.arr (List.length x) t) x _ [] g1 0 g o d e7 hh ⟨hi, hvq⟩ (by simpa [Loc] using hl) hg
          exact ⟨cs', bs', k1, k2⟩
theorem locR_ne {t : Ty} {v : Value} {p : List Step} {g o : Nat} (h : LocR w t (.hdr v) p g o) : p ≠ [] := by
  rintro rfl
  cases t <;> exact h.elim
theorem vir_hdr (hs : Sim B0 F w st L B) {k : Nat} {ob : DObj} (hk : st.get k = some ob) (hv : ob.vir = true) : ∃ v, L k = .hdr v := by
  have ho := hs.obj k ob hk
  obtain ⟨t, x, vir, z⟩ := ob
  simp only at hv
  subst hv
  cases hL : L k with
  | mem g0 off => rw [hL] at ho; cases t <;> exact ho.elim
  | hdr v => exact ⟨v, rfl⟩
theorem place_at' (hs : Sim B0 F w st L B) {k : Nat} {ob : DObj} (hk : st.get k = some ob) {p : List Step} {g o : Nat} (hv : Valid p ob.t ob.x) (hl : LocR w ob.t (L k) p g o) {d : DVal} (hg : get p ob.t ob.x = some d) :
    ∃ cs bs, Rel F w d.t d.x cs bs ∧ HoldsAt w g o cs :=
  place_at hs hk hv hl hg fun h => by
    obtain ⟨v, hv'⟩ := vir_hdr hs hk h
    rw [hv'] at hl
    exact locR_ne hl
/-- pure data at a place -/
theorem place_pure (hs : Sim B0 F w st L B) {k : Nat} {ob : DObj} (hk : st.get k = some ob) {p : List Step} {g o : Nat} (hv : Valid p ob.t ob.x) (hl : LocR w ob.t (L k) p g o) {d : DVal} (hg : get p ob.t ob.x = some d) (hp : d.t.pure = true) :
    ∃ cs, Rel F w d.t d.x cs [] ∧ HoldsAt w g o cs := by
  obtain ⟨cs, bs, h1, h2⟩ := place_at' hs hk hv hl hg
  have := Rel.pure _ _ _ _ hp h1
  subst this
  exact ⟨cs, h1, h2⟩

theorem op_load {s : S} {o : Oper} {T : TypeId} {x : Operand} {ve : DV × Eff} {s' : S} (hC : Core B0 F0 w0 s.st s.fr a w F L B) (ho : o.op = .load T x) (h : (dop P C env o (fun x => resolve s.st (dval s.fr x))).val = some ve) (ha : apply o.dst s ve = some s') :
    Does P o a w fun rv w' => Abs B0 F0 w0 s' (a.put o.dst rv) w' := by
  have hx := hC.fr.opd x
  simp only [dop, ho] at h
  split at h <;> try (cases h; done)
  · rename_i d e1
    rw [e1] at hx
    split at h <;> try (cases h; done)
    rename_i hf
    simp only [Cmd.val_ret, Option.some.injEq] at h
    subst h
    obtain ⟨b, oo, cs, e, hr, hc⟩ := hx.rel
    have hl := Rel.length _ _ _ _ hr
    obtain ⟨v, hv⟩ := Val.mk_of hl
    refine .of_value hC ha (sv := Instr.loadAt T (a.eval x)) (by simp [execOp, ho]) (rv := v) ?_ ⟨cs, hv, hr⟩
    simp only [Instr.loadAt, e, Instr.sureAddr, Sem.run_bind, Sem.run_pure, Result.andThen_ok]
    exact load_spec hf (fun j u hu => (hc j u hu).2) hl hv
  · rename_i k p ob e1
    rw [e1] at hx
    split at h <;> try (cases h; done)
    rename_i d e2
    have hk := hx.ptr k p ob rfl
    obtain ⟨g, oo, e3, hval, hloc⟩ := ptr_at hx.rel hk
    split at h
    · rename_i hf
      simp only [Bool.and_eq_true] at hf
      simp only [Cmd.val_ret, Option.some.injEq] at h
      subst h
      obtain ⟨cs, hr, hh⟩ := place_pure hC.sim hk hval hloc e2 hf.2
      have hl := Rel.length _ _ _ _ hr
      obtain ⟨v, hv⟩ := Val.mk_of hl
      refine .of_value hC ha (sv := Instr.loadAt T (a.eval x)) (by simp [execOp, ho]) (rv := v) ?_ ⟨cs, hv, hr⟩
      simp only [Instr.loadAt, e3, Instr.sureAddr, Sem.run_bind, Sem.run_pure, Result.andThen_ok]
      exact load_spec hf.1 (fun j u hu => hh.cell j u hu) hl hv
    · split at h <;> try (cases h; done)
      rename_i hf
      simp only [Bool.and_eq_true] at hf
      simp only [Cmd.val_ret, Option.some.injEq] at h
      subst h
      obtain ⟨cs, bs, hr, hh⟩ := place_at' hC.sim hk hval hloc e2
      have hl := Rel.length _ _ _ _ hr
      obtain ⟨v, hv⟩ := Val.mk_of hl
      have hat := get_at _ _ _ _ e2
      obtain ⟨dt, dx⟩ := d
      cases dt <;> simp only [Ty.isOwn, Bool.false_eq_true, and_false] at hf
      rename_i u hnot
      have hcs : cs = [v] := by simpa [Val, Ty.isAgg] using hv
      refine .of_value hC ha (sv := Instr.loadAt T (a.eval x)) (by simp [execOp, ho]) (rv := v) ?_ ⟨ob, g, oo, u, hk, hat, hval, hloc, ?_⟩
      · simp only [Instr.loadAt, e3, Instr.sureAddr, Sem.run_bind, Sem.run_pure, Result.andThen_ok]
        exact load_spec hf.1 (fun j u hu => hh.cell j u hu) hl hv
      · have := hh.cell 0 v (by rw [hcs]; rfl)
        simpa using this

/-- a pointer to an object that owns its rows -/
theorem op_nilCheck {s : S} {o : Oper} {x : Operand} {ve : DV × Eff} {s' : S} (hC : Core B0 F0 w0 s.st s.fr a w F L B) (ho : o.op = .nilCheck x) (h : (dop P C env o (fun x => resolve s.st (dval s.fr x))).val = some ve) (ha : apply o.dst s ve = some s') :
    Does P o a w fun rv w' => Abs B0 F0 w0 s' (a.put o.dst rv) w' := by
  have hx := hC.fr.opd x
  simp only [dop, ho] at h
  split at h <;> try (cases h; done)
  · rename_i k p ob e1
    rw [e1] at hx
    simp only [Cmd.val_ret, Option.some.injEq] at h
    subst h
    simp only [apply, Option.some.injEq] at ha
    subst ha
    obtain ⟨g, oo, e3, _⟩ := ptr_at hx.rel (hx.ptr k p ob rfl)
    exact .value (a.eval x) w (by simp [execOp, ho, e3]) (hC.value hx.rel).abs
  · rename_i d e1
    rw [e1] at hx
    simp only [Cmd.val_ret, Option.some.injEq] at h
    subst h
    simp only [apply, Option.some.injEq] at ha
    subst ha
    obtain ⟨b, oo, cs, e, _⟩ := hx.rel
    exact .value (a.eval x) w (by simp [execOp, ho, e]) (hC.value hx.rel).abs
  · rename_i k bt bx bz e1
    rw [e1] at hx
    simp only [Cmd.val_ret, Option.some.injEq] at h
    subst h
    simp only [apply, Option.some.injEq] at ha
    subst ha
    obtain ⟨g, e3, _⟩ := box_at hC.sim hx
    exact .value (a.eval x) w (by simp [execOp, ho, e3]) (hC.value hx.rel).abs

/-! ### Zero values, places of fields -/
theorem parseL_spec {f : List Value → Option (DVal × List Value)} {t : Ty} (hf : ∀ cs d r, f cs = some (d, r) → ∃ c, cs = c ++ r ∧ Rel F w d.t d.x c []) : ∀ (n : Nat) (cs : List Value) (l : List t.den) (r : List Value), parseL f t n cs = some (l, r) → l.length = n ∧ ∃ c, cs = c ++ r ∧ RelL (Rel F w t) l c []
  | 0, cs, l, r, h => by
    simp only [parseL, Option.some.injEq, Prod.mk.injEq] at h
    obtain ⟨rfl, rfl⟩ := h
    exact ⟨rfl, [], rfl, .nil⟩
  | n + 1, cs, l, r, h => by
    simp only [parseL] at h
    split at h <;> try (cases h; done)
    rename_i d r1 e
    split at h <;> try (cases h; done)
    rename_i ht
    subst ht
    simp only [Option.map_eq_some_iff, Prod.mk.injEq, Prod.exists] at h
    obtain ⟨l', r', h, rfl, rfl⟩ := h
    obtain ⟨h1, c2, rfl, h2⟩ := parseL_spec hf n r1 l' r' h
    obtain ⟨c1, rfl, h3⟩ := hf _ _ _ e
    exact ⟨by simp [h1], c1 ++ c2, by simp, by simpa using RelL.cons h3 h2⟩
theorem parse_spec : ∀ (t : Ty) (cs : List Value) (d : DVal) (r : List Value), parse t cs = some (d, r) → ∃ c, cs = c ++ r ∧ Rel F w d.t d.x c [] := by
  intro t
  induction t with
  | int k =>
    intro cs d r h
    unfold parse at h
    split at h <;> try (cases h; done)
    all_goals (rename_i e; cases e)
    all_goals (try cases h)
    split at h <;> try (cases h; done)
    rename_i e
    subst e
    cases h
    exact ⟨[_], rfl, rfl, rfl⟩
  | bool =>
    intro cs d r h
    unfold parse at h
    split at h <;> try (cases h; done)
    all_goals (rename_i e; cases e)
    cases h
    exact ⟨[_], rfl, rfl, rfl⟩
  | str =>
    intro cs d r h
    unfold parse at h
    split at h <;> try (cases h; done)
    all_goals (rename_i e; cases e)
    cases h
    exact ⟨[_], rfl, rfl, rfl⟩
  | unit =>
    intro cs d r h
    simp only [parse, Option.some.injEq, Prod.mk.injEq] at h
    obtain ⟨rfl, rfl⟩ := h
    exact ⟨[], rfl, rfl, rfl⟩
  | pair a b iha ihb =>
    intro cs d r h
    simp only [parse] at h
    split at h <;> try (cases h; done)
    rename_i d1 r1 e1
    split at h <;> try (cases h; done)
    rename_i d2 r2 e2
    cases h
    obtain ⟨c1, rfl, h1⟩ := iha _ _ _ e1
    obtain ⟨c2, rfl, h2⟩ := ihb _ _ _ e2
    exact ⟨c1 ++ c2, by simp, c1, c2, [], [], rfl, rfl, h1, h2⟩
  | arr n t ih =>
    intro cs d r h
    simp only [parse, Option.map_eq_some_iff, Prod.mk.injEq, Prod.exists] at h
    obtain ⟨l, r', h, rfl, rfl⟩ := h
    obtain ⟨h1, c, rfl, h2⟩ := parseL_spec (F := F) (w := w) ih n cs l r' h
    exact ⟨c, rfl, h1, h2⟩
  | sl t ih =>
    intro cs d r h
    unfold parse at h
    split at h <;> try (cases h; done)
    all_goals (rename_i e; cases e)
    cases h
    exact ⟨[_], rfl, rfl, none, 0, [], rfl, Nat.le_refl _, .nil, fun h => absurd h (by simp)⟩
  | own t ih => intro cs d r h; simp [parse] at h
  | box t ih => intro cs d r h; simp [parse] at h
  | pt t ih => intro cs d r h; simp [parse] at h
theorem zeroP_spec {T : TypeId} {d : DVal} (h : zeroP P T = some d) : d.t.pure = true ∧ tyOf P 20 T = some d.t ∧ ∃ i z, P.info? T = some i ∧ i.zero = some z ∧ Rel F w d.t d.x z.cells.toList [] := by
  unfold zeroP at h
  split at h <;> try (cases h; done)
  rename_i u i e1 e2
  split at h <;> try (cases h; done)
  rename_i z e3
  split at h <;> try (cases h; done)
  rename_i d' e4
  split at h <;> try (cases h; done)
  rename_i hc
  cases h
  simp only [Bool.and_eq_true, decide_eq_true_eq] at hc
  obtain ⟨c, hc1, hc2⟩ := parse_spec (F := F) (w := w) _ _ _ _ e4
  rw [List.append_nil] at hc1
  exact ⟨by rw [hc.1]; exact hc.2, by rw [hc.1]; exact e1, i, z, e2, e3, by rw [hc1]; exact hc2⟩

theorem fieldAt_spec : ∀ (i : Nat) (t : Ty) (off : Nat) (u : Ty), fieldAt i t = some (off, u) → Ty.at? (fieldSteps i) t = some u ∧ (∀ x, Valid (fieldSteps i) t x) ∧ ∀ (w : World) g o, Loc w (fieldSteps i) t g o g (o + off)
  | 0, t, off, u, h => by
    cases t <;> simp [fieldAt] at h
    obtain ⟨rfl, rfl⟩ := h
    exact ⟨rfl, fun _ => trivial, fun w g o => ⟨rfl, rfl⟩⟩
  | i + 1, t, off, u, h => by
    cases t <;> simp [fieldAt] at h
    rename_i ta tb
    obtain ⟨o', h, rfl⟩ := h
    obtain ⟨h1, h2, h3⟩ := fieldAt_spec i _ _ _ h
    refine ⟨h1, fun x => h2 _, fun w g o => ?_⟩
    have := h3 w g (o + ta.size)
    show Loc w (fieldSteps i) _ g _ g _
    rw [Nat.add_comm o', ← Nat.add_assoc]
    exact this
end
end Go.D
