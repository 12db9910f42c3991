/- The abstract machine D, part D: how its state stands for the machine's. -/
import Derived.Test.YtbcjiicaekfjlaaDC
namespace Go.D
open Go.RowKit (Below)
set_option linter.unusedSimpArgs false
set_option linter.unusedVariables false

def CellsAt (F : Nat → Nat → Prop) (w : World) (b o : Nat) (cs : List Value) : Prop :=
  ∀ (j : Nat) (u : Value), cs[j]? = some u → F b (o + j) ∧ w.cell? ⟨b, o + j, none⟩ = some u

inductive RLoc where
  | mem (g o : Nat)
  | hdr (v : Value)

def Ty.at? : List Step → Ty → Option Ty
  | [], t => some t
  | .fst :: p, .pair a _ => Ty.at? p a
  | .snd :: p, .pair _ b => Ty.at? p b
  | .idx _ :: p, .arr _ t => Ty.at? p t
  | .idx _ :: p, .own t => Ty.at? p t
  | .de :: p, .box t => Ty.at? p t
  | _ :: _, _ => none
theorem get_at : ∀ (p : List Step) (t : Ty) (x : t.den) (v : DVal), get p t x = some v → Ty.at? p t = some v.t := by
  intro p
  induction p with
  | nil => intro t x v h; simp only [get, Option.some.injEq] at h; subst h; rfl
  | cons s p ih => intro t x v h; cases s <;> cases t <;> simp only [get, Ty.at?] at h ⊢ <;> first | exact ih _ _ _ h | cases h
theorem at_get : ∀ (p : List Step) (t : Ty) (x : t.den) (u : Ty), Ty.at? p t = some u → ∃ y, get p t x = some ⟨u, y⟩ := by
  intro p
  induction p with
  | nil => intro t x u h; simp only [Ty.at?, Option.some.injEq] at h; subst h; exact ⟨x, rfl⟩
  | cons s p ih => intro t x u h; cases s <;> cases t <;> simp only [get, Ty.at?] at h ⊢ <;> first | exact ih _ _ _ h | cases h

def LocR (w : World) : Ty → RLoc → List Step → Nat → Nat → Prop
  | t, .mem g off, p, g', o' => Loc w p t g off g' o'
  | .own t, .hdr v, .idx i :: p, g', o' => ∃ g n c, v = .slice (some ⟨g, 0, none⟩) n c ∧ Loc w p t g (i * t.size) g' o'
  | _, _, _, _, _ => False

def ORel (F : Nat → Nat → Prop) (w : World) : DObj → RLoc → List Nat → Prop
  | ⟨t, x, false, _⟩, .mem g off, bs => t.pure = true ∧ bs = [g] ∧ ∃ cs, HoldsAt w g off cs ∧ Rel F w t x cs []
  | ⟨.own t, xs, true, z⟩, .hdr v, bs => (t.pure = true ∧ z ≤ List.length xs) ∧ Rel F w (.own t) xs [v] bs
  | _, _, _ => False

def Thaw (F : Nat → Nat → Prop) : DObj → List Nat → Prop
  | ⟨.own t, _, true, z⟩, bs => ∀ b ∈ bs, ∀ j, F b j → j < z * t.size
  | _, bs => ∀ b ∈ bs, ∀ j, ¬ F b j

def RelD (F : Nat → Nat → Prop) (w : World) (d : DVal) (v : Value) : Prop := ∃ cs, Val d.t v cs ∧ Rel F w d.t d.x cs []

def RelV (F : Nat → Nat → Prop) (w : World) (st : St) (L : Nat → RLoc) : DV → Value → Prop
  | .any, _ => True
  | .und, v => v = undef
  | .nilsl, v => v = .slice none 0 0
  | .data d, v => RelD F w d v
  | .tup l, v => ∃ vs, v = .tuple vs ∧ vs.size = l.length ∧ ∀ (i : Nat) (d : DVal), l[i]? = some d → ∃ u : Value, vs[i]? = some u ∧ RelD F w d u
  | .ptr k p, v => ∃ ob g' o', st.get k = some ob ∧ v = .pointer (some ⟨g', o', none⟩) ∧ Valid p ob.t ob.x ∧ LocR w ob.t (L k) p g' o'
  | .asl k p, v => ∃ ob g' o' n t, st.get k = some ob ∧ Ty.at? p ob.t = some (.arr n t) ∧ v = .slice (some ⟨g', o', none⟩) n n ∧ Valid p ob.t ob.x ∧ LocR w ob.t (L k) p g' o'
  | .ref k, v => ∃ ob, st.get k = some ob ∧ ob.vir = true ∧ L k = .hdr v
  | .rop d, v => ∃ b o cs, v = .pointer (some ⟨b, o, none⟩) ∧ Rel F w d.t d.x cs [] ∧ CellsAt F w b o cs

structure Sim (B0 : Nat) (F : Nat → Nat → Prop) (w : World) (st : St) (L : Nat → RLoc) (B : Nat → List Nat) : Prop where
  obj : ∀ k ob, st.get k = some ob → ORel F w ob (L k) (B k)
  thaw : ∀ k ob, st.get k = some ob → Thaw F ob (B k)
  apart : ∀ j k, j ≠ k → (st.get j).isSome = true → (st.get k).isSome = true → ∀ b ∈ B j, b ∉ B k
  froz : ∀ b j, F b j → b < w.heap.size
  own : ∀ k ob, st.get k = some ob → ∀ b ∈ B k, B0 ≤ b

structure FR (F : Nat → Nat → Prop) (w : World) (st : St) (L : Nat → RLoc) (fr : List DV) (a : Act) : Prop where
  len : fr.length = a.tmps.size
  rel : ∀ i d, fr[i]? = some d → RelV F w st L d (a.tmps.getD i undef)

structure Abs (B0 : Nat) (F0 : Nat → Nat → Prop) (w0 : World) (s : S) (a : Act) (w : World) : Prop where
  ex : ∃ F L B, Sim B0 F w s.st L B ∧ FR F w s.st L s.fr a ∧ (∀ b j, F0 b j → F b j) ∧ (∀ b j, F b j → F0 b j ∨ B0 ≤ b)
  below : Below B0 w0 w
  base : B0 ≤ w.heap.size
  defers : a.defers = []

variable {F F' : Nat → Nat → Prop} {w w' : World} {st st' : St} {L L' : Nat → RLoc} {B B' : Nat → List Nat} {B0 : Nat}

theorem CellsAt.keep (hF : ∀ b j, F b j → F' b j) (hw : ∀ b j, F b j → w'.cell? ⟨b, j, none⟩ = w.cell? ⟨b, j, none⟩) {b o : Nat} {cs : List Value} (h : CellsAt F w b o cs) : CellsAt F' w' b o cs :=
  fun j u hu => ⟨hF _ _ (h j u hu).1, by rw [hw _ _ (h j u hu).1]; exact (h j u hu).2⟩
theorem RelD.keep (hF : ∀ b j, F b j → F' b j) (hw : ∀ b j, F b j → w'.cell? ⟨b, j, none⟩ = w.cell? ⟨b, j, none⟩) {d : DVal} {v : Value} (h : RelD F w d v) : RelD F' w' d v := by
  obtain ⟨cs, h1, h2⟩ := h
  exact ⟨cs, h1, Rel.keep hF hw _ _ _ _ (by simp) h2⟩

structure Ext (F : Nat → Nat → Prop) (w : World) (st : St) (L : Nat → RLoc) (F' : Nat → Nat → Prop) (w' : World) (st' : St) (L' : Nat → RLoc) (dead : Option Nat) : Prop where
  fm : ∀ b j, F b j → F' b j
  cell : ∀ b j, F b j → w'.cell? ⟨b, j, none⟩ = w.cell? ⟨b, j, none⟩
  obj : ∀ k ob, some k ≠ dead → st.get k = some ob → ∃ x' z', st'.get k = some ⟨ob.t, x', ob.vir, z'⟩ ∧ L' k = L k ∧ ∀ q, Valid q ob.t ob.x → Valid q ob.t x'

theorem LocR.keep {ob : DObj} {rl : RLoc} {bs : List Nat} (ho : ORel F w ob rl bs) {p : List Step} {g o : Nat} (h : LocR w ob.t rl p g o) : LocR w' ob.t rl p g o := by
  obtain ⟨t, x, vir, z⟩ := ob
  cases rl with
  | mem g0 off =>
    cases vir
    · exact Loc.pure _ _ _ _ _ _ ho.1 h
    · cases t <;> exact ho.elim
  | hdr v =>
    cases vir
    · exact ho.elim
    · cases t <;> try exact ho.elim
      cases p with
      | nil => exact h.elim
      | cons s p =>
        cases s <;> try exact h.elim
        obtain ⟨g1, n, c, e, h⟩ := h
        exact ⟨g1, n, c, e, Loc.pure _ _ _ _ _ _ ho.1.1 h⟩

def DV.key : DV → Option Nat
  | .ptr k _ | .asl k _ | .ref k => some k
  | _ => none

theorem RelV.ext {dead : Option Nat} (hs : Sim B0 F w st L B) (he : Ext F w st L F' w' st' L' dead) {d : DV} {v : Value} (hd : ∀ k, d.key = some k → some k ≠ dead) (h : RelV F w st L d v) : RelV F' w' st' L' d v := by
  cases d with
  | any => trivial
  | und => exact h
  | nilsl => exact h
  | data d => exact h.keep he.fm he.cell
  | tup l =>
    obtain ⟨vs, e, h1, h2⟩ := h
    exact ⟨vs, e, h1, fun i d hd => let ⟨u, hu, hr⟩ := h2 i d hd; ⟨u, hu, hr.keep he.fm he.cell⟩⟩
  | rop d =>
    obtain ⟨b, o, cs, e, h1, h2⟩ := h
    exact ⟨b, o, cs, e, Rel.keep he.fm he.cell _ _ _ _ (by simp) h1, h2.keep he.fm he.cell⟩
  | ptr k p =>
    obtain ⟨ob, g, o, h1, h2, h3, h4⟩ := h
    obtain ⟨x', z', e1, e2, e3⟩ := he.obj k ob (hd k rfl) h1
    exact ⟨_, g, o, e1, h2, e3 _ h3, by rw [e2]; exact LocR.keep (hs.obj k ob h1) h4⟩
  | asl k p =>
    obtain ⟨ob, g, o, n, t, h1, h0, h2, h3, h4⟩ := h
    obtain ⟨x', z', e1, e2, e3⟩ := he.obj k ob (hd k rfl) h1
    exact ⟨_, g, o, n, t, e1, h0, h2, e3 _ h3, by rw [e2]; exact LocR.keep (hs.obj k ob h1) h4⟩
  | ref k =>
    obtain ⟨ob, h1, h2, h3⟩ := h
    obtain ⟨x', z', e1, e2, e3⟩ := he.obj k ob (hd k rfl) h1
    exact ⟨_, e1, h2, by rw [e2]; exact h3⟩

theorem forget_key (k : Nat) (d : DV) : ∀ j, (forget k d).key = some j → j ≠ k := by
  intro j h
  cases d <;> simp only [forget] at h <;> try (simp [DV.key] at h; done)
  all_goals
    split at h
    · simp [DV.key] at h
    · simp only [DV.key, Option.some.injEq] at h; subst h; assumption
theorem forget_rel {k : Nat} {d : DV} {v : Value} (h : RelV F w st L d v) : RelV F w st L (forget k d) v := by
  cases d <;> simp only [forget] <;> try exact h
  all_goals (split; trivial; exact h)

/-- The frame behind an operation: what was forgotten, what is new. -/
theorem FR.next {fr : List DV} {a : Act} (hs : Sim B0 F w st L B) (he : Ext F w st L F' w' st' L' none) (h : FR F w st L fr a) {dst : Option Tmp} {d : DV} {v : Value} (hv : ∀ t, dst = some t → RelV F' w' st' L' d v) :
    FR F' w' st' L' (setFr fr dst d) (a.put dst v) := by
  cases dst with
  | none => exact ⟨h.len, fun i d hd => (h.rel i d hd).ext hs he (by simp)⟩
  | some t =>
    refine ⟨by simp [setFr, Act.put, h.len], fun i d' hd => ?_⟩
    simp only [setFr, List.getElem?_set] at hd
    simp only [Act.put, Array.getD_eq_getD_getElem?, Array.getElem?_setIfInBounds]
    split at hd
    · rename_i e
      subst e
      split at hd
      · rename_i hlt
        simp only [Option.some.injEq] at hd
        subst hd
        rw [if_pos rfl, if_pos (by rw [← h.len]; exact hlt)]
        exact hv _ rfl
      · cases hd
    · rename_i e
      rw [if_neg e, ← Array.getD_eq_getD_getElem?]
      exact (h.rel i d' hd).ext hs he (by simp)
theorem FR.nextDead {fr : List DV} {a : Act} {k : Nat} (hs : Sim B0 F w st L B) (he : Ext F w st L F' w' st' L' (some k)) (h : FR F w st L fr a) {dst : Option Tmp} {d : DV} {v : Value} (hv : ∀ t, dst = some t → RelV F' w' st' L' d v) :
    FR F' w' st' L' (setFr (fr.map (forget k)) dst d) (a.put dst v) := by
  have h1 : ∀ i d, (fr.map (forget k))[i]? = some d → RelV F' w' st' L' d (a.tmps.getD i undef) := by
    intro i d hd
    rw [List.getElem?_map, Option.map_eq_some_iff] at hd
    obtain ⟨d0, hd, rfl⟩ := hd
    exact (forget_rel (h.rel i d0 hd)).ext hs he (fun j hj e => forget_key k d0 j hj (Option.some.inj e))
  cases dst with
  | none => exact ⟨by simp [setFr, Act.put, h.len], h1⟩
  | some t =>
    refine ⟨by simp [setFr, Act.put, h.len], fun i d' hd => ?_⟩
    simp only [setFr, List.getElem?_set] at hd
    simp only [Act.put, Array.getD_eq_getD_getElem?, Array.getElem?_setIfInBounds]
    split at hd
    · rename_i e
      subst e
      split at hd
      · rename_i hlt
        simp only [Option.some.injEq] at hd
        subst hd
        rw [if_pos rfl, if_pos (by rw [← h.len]; simpa using hlt)]
        exact hv _ rfl
      · cases hd
    · rename_i e
      rw [if_neg e, ← Array.getD_eq_getD_getElem?]
      exact h1 i d' hd

theorem get_put_same (k : Nat) (o : DObj) : ∀ st : St, (st.put k o).get k = some o
  | [] => by simp [St.put, St.get]
  | (j, q) :: r => by
    simp only [St.put]
    split
    · simp [St.get]
    · rename_i h; simp only [St.get, if_neg h]; exact get_put_same k o r
theorem get_put_other {k j : Nat} (o : DObj) (h : j ≠ k) : ∀ st : St, (st.put k o).get j = st.get j
  | [] => by simp [St.put, St.get, Ne.symm h]
  | (i, q) :: r => by
    simp only [St.put]
    split
    · rename_i e; subst e; simp [St.get, Ne.symm h]
    · simp only [St.get]; split; rfl; exact get_put_other o h r

/-- what an operand stands for -/
theorem resolve_ptr {d : DV} {k : Nat} {p : List Step} {o : DObj} (h : resolve st d = .ptr k p o) : d = .ptr k p ∧ st.get k = some o := by
  cases d <;> simp only [resolve] at h <;> try (cases h; done)
  all_goals (split at h <;> cases h)
  exact ⟨rfl, by assumption⟩
theorem resolve_asl {d : DV} {k : Nat} {p : List Step} {o : DObj} (h : resolve st d = .asl k p o) : d = .asl k p ∧ st.get k = some o := by
  cases d <;> simp only [resolve] at h <;> try (cases h; done)
  all_goals (split at h <;> cases h)
  exact ⟨rfl, by assumption⟩
theorem resolve_ref {d : DV} {k : Nat} {o : DObj} (h : resolve st d = .ref k o) : d = .ref k ∧ st.get k = some o := by
  cases d <;> simp only [resolve] at h <;> try (cases h; done)
  all_goals (split at h <;> cases h)
  exact ⟨rfl, by assumption⟩
theorem resolve_data {d : DV} {x : DVal} (h : resolve st d = .data x) : d = .data x := by
  cases d <;> simp only [resolve] at h <;> first | (cases h <;> rfl) | (split at h <;> cases h)
theorem resolve_rop {d : DV} {x : DVal} (h : resolve st d = .rop x) : d = .rop x := by
  cases d <;> simp only [resolve] at h <;> first | (cases h <;> rfl) | (split at h <;> cases h)
theorem resolve_tup {d : DV} {x : List DVal} (h : resolve st d = .tup x) : d = .tup x := by
  cases d <;> simp only [resolve] at h <;> first | (cases h <;> rfl) | (split at h <;> cases h)
theorem resolve_nilsl {d : DV} (h : resolve st d = .nilsl) : d = .nilsl := by
  cases d <;> simp only [resolve] at h <;> first | (cases h <;> rfl) | (split at h <;> cases h)

theorem FR.eval {fr : List DV} {a : Act} (h : FR F w st L fr a) (x : Operand) : RelV F w st L (dval fr x) (a.eval x) := by
  cases x with
  | tmp t =>
    simp only [dval, Act.eval]
    rw [List.getD_eq_getElem?_getD]
    cases e : fr[t]? with
    | none => trivial
    | some d => exact h.rel t d e
  | const v =>
    simp only [dval, Act.eval]
    cases v <;> simp only [constV] <;> try trivial
    · exact ⟨_, rfl, rfl, rfl⟩
    · exact ⟨_, rfl, rfl, rfl⟩
    · exact ⟨_, rfl, rfl, rfl⟩
    · split <;> first | (rename_i e; cases e; rfl) | trivial
  | global g => trivial
  | func f => trivial
/-- the operand as it is resolved -/
theorem FR.rv {fr : List DV} {a : Act} (h : FR F w st L fr a) (x : Operand) : RelV F w st L (resolve st (dval fr x)).dv (a.eval x) := by
  have he := h.eval x
  cases hd : dval fr x <;> rw [hd] at he <;> simp only [resolve] <;> try exact he
  all_goals (split <;> first | exact he | trivial)
end Go.D
