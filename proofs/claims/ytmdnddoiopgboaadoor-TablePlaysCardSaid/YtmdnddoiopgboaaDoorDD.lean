/- The abstract machine D, part D: how its state stands for the machine's. -/
import Derived.Test.YtmdnddoiopgboaaDoorDC
namespace Go.D
set_option linter.unusedSimpArgs false
set_option linter.unusedVariables false

def CellsAt (F : Nat → Nat → Prop) (w : World) (b o : Nat) (cs : List Value) : Prop :=
  ∀ (j : Nat) (u : Value), cs[j]? = some u → F b (o + j) ∧ w.cell? ⟨b, o + j, none⟩ = some u

inductive RLoc where
  | mem (g o : Nat)
  | hdr (v : Value)

theorem get_at : ∀ (p : List Step) (t : Ty) (x : t.den) (v : DVal), get p t x = some v → Ty.at? p t = some v.t := by
  intro p
  induction p with
  | nil => intro t x v h; simp only [get, Option.some.injEq] at h; subst h; rfl
  | cons s p ih => intro t x v h; cases s <;> cases t <;> simp only [get, Ty.at?] at h ⊢ <;> first | exact ih _ _ _ h | cases h
theorem at_get : ∀ (p : List Step) (t : Ty) (x : t.den) (u : Ty), Ty.at? p t = some u → ∃ y, get p t x = some ⟨u, y⟩ := by
  intro p
  induction p with
  | nil => intro t x u h; simp only [Ty.at?, Option.some.injEq] at h; subst h; exact ⟨x, rfl⟩
  | cons s p ih => intro t x u h; cases s <;> cases t <;> simp only [get, Ty.at?] at h ⊢ <;> first | exact ih _ _ _ h | cases h

def LocR (w : World) : Ty → RLoc → List Step → Nat → Nat → Prop
  | t, .mem g off, p, g', o' => Loc w p t g off g' o'
  | .own t, .hdr v, .idx i :: p, g', o' => ∃ g n c, v = .slice (some ⟨g, 0, none⟩) n c ∧ Loc w p t g (i * t.size) g' o'
  | .box t, .hdr v, .de :: p, g', o' => ∃ g, v = .pointer (some ⟨g, 0, none⟩) ∧ Loc w p t g 0 g' o'
  | _, _, _, _, _ => False

def ORel (F : Nat → Nat → Prop) (w : World) : DObj → RLoc → List Nat → Prop
  | ⟨t, x, false, _⟩, .mem g off, bs => t.pure = true ∧ bs = [g] ∧ ∃ cs, HoldsAt w g off cs ∧ Rel F w t x cs []
  | ⟨.own t, xs, true, z⟩, .hdr v, bs => (t.pure = true ∧ z ≤ List.length xs) ∧ Rel F w (.own t) xs [v] bs
  | ⟨.box t, x, true, _⟩, .hdr v, bs => bs.Nodup ∧ Rel F w (.box t) x [v] bs
  | ⟨.sl t, x, true, _⟩, .hdr v, bs => t.pure = true ∧ Rel F w (.sl t) x [v] bs
  | ⟨.pair a b, x, true, _⟩, .hdr v, bs => bs.Nodup ∧ ∃ cs, v = .agg cs.toArray ∧ Rel F w (.pair a b) x cs bs
  | ⟨.unit, _, true, _⟩, .hdr _, bs => bs = []
  | _, _, _ => False

def Thaw (F : Nat → Nat → Prop) : DObj → List Nat → Prop
  | ⟨.own t, _, true, z⟩, bs => ∀ b ∈ bs, ∀ j, F b j → j < z * t.size
  | _, bs => ∀ b ∈ bs, ∀ j, ¬ F b j

def RelD (F : Nat → Nat → Prop) (w : World) (d : DVal) (v : Value) : Prop := ∃ cs, Val d.t v cs ∧ Rel F w d.t d.x cs []

def RelV (F : Nat → Nat → Prop) (w : World) (st : St) (L : Nat → RLoc) : DV → Value → Prop
  | .any, _ => True
  | .und, v => v = undef
  | .nilsl, v => v = .slice none 0 0
  | .data d, v => RelD F w d v
  | .tup l, v => ∃ vs, v = .tuple vs ∧ vs.size = l.length ∧ ∀ (i : Nat) (d : DVal), l[i]? = some d → ∃ u : Value, vs[i]? = some u ∧ RelD F w d u
  | .ptr k p, v => ∃ ob g' o', st.get k = some ob ∧ v = .pointer (some ⟨g', o', none⟩) ∧ Valid p ob.t ob.x ∧ LocR w ob.t (L k) p g' o'
  | .asl k p, v => ∃ ob g' o' n t, st.get k = some ob ∧ Ty.at? p ob.t = some (.arr n t) ∧ v = .slice (some ⟨g', o', none⟩) n n ∧ Valid p ob.t ob.x ∧ LocR w ob.t (L k) p g' o'
  | .ref k, v => ∃ ob, st.get k = some ob ∧ ob.vir = true ∧ L k = .hdr v
  | .rop d, v => ∃ b o cs, v = .pointer (some ⟨b, o, none⟩) ∧ Rel F w d.t d.x cs [] ∧ CellsAt F w b o cs
  | .rref k p, v => ∃ ob g' o' t, st.get k = some ob ∧ Ty.at? p ob.t = some (.own t) ∧ Valid p ob.t ob.x ∧ LocR w ob.t (L k) p g' o' ∧ w.cell? ⟨g', o', none⟩ = some v

/-- what was there ahead of a call; the blocks that were handed in; the header of what was handed in -/
structure Base where
  n : Nat
  O : List Nat := []
  pin : Option Value := none
def Base.has (B0 : Base) (b : Nat) : Prop := B0.n ≤ b ∨ b ∈ B0.O
/-- what was there, and wasn't handed in, is as it was -/
structure Below (B0 : Base) (w w' : World) : Prop where
  os : w'.os = w.os
  tape : w'.tape = w.tape
  output : w'.output = w.output
  size : w.heap.size ≤ w'.heap.size
  block : ∀ k, k < B0.n → k ∉ B0.O → w'.heap[k]? = w.heap[k]?
theorem Below.refl (B0 : Base) (w : World) : Below B0 w w := ⟨rfl, rfl, rfl, Nat.le_refl _, fun _ _ _ => rfl⟩
theorem Below.trans {B0 : Base} {a b c : World} (h : Below B0 a b) (k : Below B0 b c) : Below B0 a c :=
  ⟨k.os.trans h.os, k.tape.trans h.tape, k.output.trans h.output, Nat.le_trans h.size k.size, fun i hi ho => (k.block i hi ho).trans (h.block i hi ho)⟩

structure Sim (B0 : Base) (F : Nat → Nat → Prop) (w : World) (st : St) (L : Nat → RLoc) (B : Nat → List Nat) : Prop where
  obj : ∀ k ob, st.get k = some ob → ORel F w ob (L k) (B k)
  thaw : ∀ k ob, st.get k = some ob → Thaw F ob (B k)
  apart : ∀ j k, j ≠ k → (st.get j).isSome = true → (st.get k).isSome = true → ∀ b ∈ B j, b ∉ B k
  froz : ∀ b j, F b j → b < w.heap.size
  own : ∀ k ob, st.get k = some ob → ∀ b ∈ B k, B0.has b
  pin : ∀ v ob, B0.pin = some v → st.get pinKey = some ob → L pinKey = .hdr v

/-- the package's variables hold what they are told to, and are only read -/
def GlobOk (F : Nat → Nat → Prop) (w : World) : Prop := ∀ g d, gvars.lookup g = some d → ∃ cs, Rel F w d.t d.x cs [] ∧ CellsAt F w g 0 cs
structure FR (F : Nat → Nat → Prop) (w : World) (st : St) (L : Nat → RLoc) (fr : List DV) (a : Act) : Prop where
  len : fr.length = a.tmps.size
  rel : ∀ i d, fr[i]? = some d → RelV F w st L d (a.tmps.getD i undef)
  glob : GlobOk F w

structure Abs (B0 : Base) (F0 : Nat → Nat → Prop) (w0 : World) (s : S) (a : Act) (w : World) : Prop where
  ex : ∃ F L B, Sim B0 F w s.st L B ∧ FR F w s.st L s.fr a ∧ (∀ b j, F0 b j → F b j) ∧ (∀ b j, F b j → F0 b j ∨ B0.has b)
  below : Below B0 w0 w
  base : B0.n ≤ w.heap.size
  defers : a.defers = []

variable {F F' : Nat → Nat → Prop} {w w' : World} {st st' : St} {L L' : Nat → RLoc} {B B' : Nat → List Nat} {B0 : Base}

theorem CellsAt.keep (hF : ∀ b j, F b j → F' b j) (hw : ∀ b j, F b j → w'.cell? ⟨b, j, none⟩ = w.cell? ⟨b, j, none⟩) {b o : Nat} {cs : List Value} (h : CellsAt F w b o cs) : CellsAt F' w' b o cs :=
  fun j u hu => ⟨hF _ _ (h j u hu).1, by rw [hw _ _ (h j u hu).1]; exact (h j u hu).2⟩
theorem GlobOk.keep (hF : ∀ b j, F b j → F' b j) (hw : ∀ b j, F b j → w'.cell? ⟨b, j, none⟩ = w.cell? ⟨b, j, none⟩) (h : GlobOk F w) : GlobOk F' w' := fun g d hg => by
  obtain ⟨cs, h1, h2⟩ := h g d hg
  exact ⟨cs, Rel.keep hF hw _ _ _ _ (by simp) h1, h2.keep hF hw⟩
theorem RelD.keep (hF : ∀ b j, F b j → F' b j) (hw : ∀ b j, F b j → w'.cell? ⟨b, j, none⟩ = w.cell? ⟨b, j, none⟩) {d : DVal} {v : Value} (h : RelD F w d v) : RelD F' w' d v := by
  obtain ⟨cs, h1, h2⟩ := h
  exact ⟨cs, h1, Rel.keep hF hw _ _ _ _ (by simp) h2⟩

/-- the places of an object stay where they are, and so do the headers there -/
def Stay (w w' : World) (t : Ty) (x : t.den) (rl : RLoc) : Prop :=
  ∀ (p : List Step) (g o : Nat), Valid p t x → LocR w t rl p g o → LocR w' t rl p g o ∧ ∀ u, Ty.at? p t = some (.own u) → w'.cell? ⟨g, o, none⟩ = w.cell? ⟨g, o, none⟩

structure Ext (F : Nat → Nat → Prop) (w : World) (st : St) (L : Nat → RLoc) (F' : Nat → Nat → Prop) (w' : World) (st' : St) (L' : Nat → RLoc) (dead : Option Nat) : Prop where
  fm : ∀ b j, F b j → F' b j
  cell : ∀ b j, F b j → w'.cell? ⟨b, j, none⟩ = w.cell? ⟨b, j, none⟩
  obj : ∀ k ob, some k ≠ dead → st.get k = some ob → ∃ x' z', st'.get k = some ⟨ob.t, x', ob.vir, z'⟩ ∧ L' k = L k ∧ (∀ q, Valid q ob.t ob.x → Valid q ob.t x') ∧ Stay w w' ob.t ob.x (L k)

theorem Stay.refl {t : Ty} {x : t.den} {rl : RLoc} : Stay w w t x rl := fun _ _ _ _ h => ⟨h, fun _ _ => rfl⟩
theorem Stay.trans {w1 w2 w3 : World} {t : Ty} {x x' : t.den} {rl : RLoc} (h : Stay w1 w2 t x rl) (hv : ∀ q, Valid q t x → Valid q t x') (k : Stay w2 w3 t x' rl) : Stay w1 w3 t x rl := fun p g o v l => by
  obtain ⟨h1, h2⟩ := h p g o v l
  obtain ⟨k1, k2⟩ := k p g o (hv p v) h1
  exact ⟨k1, fun u hu => (k2 u hu).trans (h2 u hu)⟩
/-- where an object's blocks are left alone, its places stay -/
def Ty.isBox : Ty → Bool
  | .box _ => true
  | _ => false
theorem ORel.stay {ob : DObj} {rl : RLoc} {bs : List Nat} (ho : ORel F w ob rl bs) (hb : ob.t.isBox = true → ∀ b ∈ bs, w'.heap[b]? = w.heap[b]?) : Stay w w' ob.t ob.x rl := by
  obtain ⟨t, x, vir, z⟩ := ob
  intro p g o hv h
  cases rl with
  | mem g0 off =>
    cases vir
    · refine ⟨?_, fun u hu => ?_⟩
      · have := Loc.pure (w2 := w') _ _ _ _ _ _ ho.1 h
        cases t <;> exact this
      · have := Ty.at_pure _ _ _ ho.1 hu
        cases this
    · cases t <;> exact ho.elim
  | hdr v =>
    cases vir
    · exact ho.elim
    · cases t <;> try exact ho.elim
      · exact h.elim
      · exact h.elim
      · exact h.elim
      · cases p with
        | nil => exact h.elim
        | cons s p =>
          cases s <;> try exact h.elim
          obtain ⟨g1, n, c, e, h⟩ := h
          refine ⟨⟨g1, n, c, e, Loc.pure _ _ _ _ _ _ ho.1.1 h⟩, fun u hu => ?_⟩
          have := Ty.at_pure _ _ _ ho.1.1 hu
          cases this
      · cases p with
        | nil => exact h.elim
        | cons s p =>
          cases s <;> try exact h.elim
          obtain ⟨g1, e, h⟩ := h
          obtain ⟨_, g2, cur, tag, bs', e1, e2, e3, e4⟩ := ho
          have e5 : v = .pointer (some ⟨g2, 0, none⟩) := by simpa using e1
          rw [e] at e5
          injection e5 with e5
          injection e5 with e5
          injection e5 with e5 _ _
          subst e5
          have hb := hb rfl
          have hg : w'.heap[g1]? = w.heap[g1]? := hb g1 (by simp [e2])
          obtain ⟨k1, k2⟩ := Loc.stay (w2 := w') p _ _ _ _ _ _ _ _ e4 (.whole e3) (fun j _ => World.cell?_of_block (w := w) hg) (fun b hb' => hb b (by simp [e2, hb'])) hv h
          exact ⟨⟨g1, e, k1⟩, k2⟩

def DV.key : DV → Option Nat
  | .ptr k _ | .asl k _ | .ref k | .rref k _ => some k
  | _ => none

theorem RelV.ext {dead : Option Nat} (hs : Sim B0 F w st L B) (he : Ext F w st L F' w' st' L' dead) {d : DV} {v : Value} (hd : ∀ k, d.key = some k → some k ≠ dead) (h : RelV F w st L d v) : RelV F' w' st' L' d v := by
  cases d with
  | any => trivial
  | und => exact h
  | nilsl => exact h
  | data d => exact h.keep he.fm he.cell
  | tup l =>
    obtain ⟨vs, e, h1, h2⟩ := h
    exact ⟨vs, e, h1, fun i d hd => let ⟨u, hu, hr⟩ := h2 i d hd; ⟨u, hu, hr.keep he.fm he.cell⟩⟩
  | rop d =>
    obtain ⟨b, o, cs, e, h1, h2⟩ := h
    exact ⟨b, o, cs, e, Rel.keep he.fm he.cell _ _ _ _ (by simp) h1, h2.keep he.fm he.cell⟩
  | ptr k p =>
    obtain ⟨ob, g, o, h1, h2, h3, h4⟩ := h
    obtain ⟨x', z', e1, e2, e3, e4⟩ := he.obj k ob (hd k rfl) h1
    exact ⟨_, g, o, e1, h2, e3 _ h3, by rw [e2]; exact (e4 _ _ _ h3 h4).1⟩
  | asl k p =>
    obtain ⟨ob, g, o, n, t, h1, h0, h2, h3, h4⟩ := h
    obtain ⟨x', z', e1, e2, e3, e4⟩ := he.obj k ob (hd k rfl) h1
    exact ⟨_, g, o, n, t, e1, h0, h2, e3 _ h3, by rw [e2]; exact (e4 _ _ _ h3 h4).1⟩
  | ref k =>
    obtain ⟨ob, h1, h2, h3⟩ := h
    obtain ⟨x', z', e1, e2, e3, e4⟩ := he.obj k ob (hd k rfl) h1
    exact ⟨_, e1, h2, by rw [e2]; exact h3⟩
  | rref k p =>
    obtain ⟨ob, g, o, t, h1, h0, h3, h4, h5⟩ := h
    obtain ⟨x', z', e1, e2, e3, e4⟩ := he.obj k ob (hd k rfl) h1
    obtain ⟨f1, f2⟩ := e4 _ _ _ h3 h4
    exact ⟨_, g, o, t, e1, h0, e3 _ h3, by rw [e2]; exact f1, by rw [f2 _ h0]; exact h5⟩

theorem forget_key (k : Nat) (d : DV) : ∀ j, (forget k d).key = some j → j ≠ k := by
  intro j h
  cases d <;> simp only [forget] at h <;> try (simp [DV.key] at h; done)
  all_goals
    split at h
    · simp [DV.key] at h
    · simp only [DV.key, Option.some.injEq] at h; subst h; assumption
theorem forget_rel {k : Nat} {d : DV} {v : Value} (h : RelV F w st L d v) : RelV F w st L (forget k d) v := by
  cases d <;> simp only [forget] <;> try exact h
  all_goals (split; trivial; exact h)

/-- The frame behind an operation: what was forgotten, what is new. -/
theorem FR.next {fr : List DV} {a : Act} (hs : Sim B0 F w st L B) (he : Ext F w st L F' w' st' L' none) (h : FR F w st L fr a) {dst : Option Tmp} {d : DV} {v : Value} (hv : ∀ t, dst = some t → RelV F' w' st' L' d v) :
    FR F' w' st' L' (setFr fr dst d) (a.put dst v) := by
  cases dst with
  | none => exact ⟨h.len, fun i d hd => (h.rel i d hd).ext hs he (by simp), h.glob.keep he.fm he.cell⟩
  | some t =>
    refine ⟨by simp [setFr, Act.put, h.len], fun i d' hd => ?_, h.glob.keep he.fm he.cell⟩
    simp only [setFr, List.getElem?_set] at hd
    simp only [Act.put, Array.getD_eq_getD_getElem?, Array.getElem?_setIfInBounds]
    split at hd
    · rename_i e
      subst e
      split at hd
      · rename_i hlt
        simp only [Option.some.injEq] at hd
        subst hd
        rw [if_pos rfl, if_pos (by rw [← h.len]; exact hlt)]
        exact hv _ rfl
      · cases hd
    · rename_i e
      rw [if_neg e, ← Array.getD_eq_getD_getElem?]
      exact (h.rel i d' hd).ext hs he (by simp)
theorem FR.nextDead {fr : List DV} {a : Act} {k : Nat} (hs : Sim B0 F w st L B) (he : Ext F w st L F' w' st' L' (some k)) (h : FR F w st L fr a) {dst : Option Tmp} {d : DV} {v : Value} (hv : ∀ t, dst = some t → RelV F' w' st' L' d v) :
    FR F' w' st' L' (setFr (fr.map (forget k)) dst d) (a.put dst v) := by
  have h1 : ∀ i d, (fr.map (forget k))[i]? = some d → RelV F' w' st' L' d (a.tmps.getD i undef) := by
    intro i d hd
    rw [List.getElem?_map, Option.map_eq_some_iff] at hd
    obtain ⟨d0, hd, rfl⟩ := hd
    exact (forget_rel (h.rel i d0 hd)).ext hs he (fun j hj e => forget_key k d0 j hj (Option.some.inj e))
  cases dst with
  | none => exact ⟨by simp [setFr, Act.put, h.len], h1, h.glob.keep he.fm he.cell⟩
  | some t =>
    refine ⟨by simp [setFr, Act.put, h.len], fun i d' hd => ?_, h.glob.keep he.fm he.cell⟩
    simp only [setFr, List.getElem?_set] at hd
    simp only [Act.put, Array.getD_eq_getD_getElem?, Array.getElem?_setIfInBounds]
    split at hd
    · rename_i e
      subst e
      split at hd
      · rename_i hlt
        simp only [Option.some.injEq] at hd
        subst hd
        rw [if_pos rfl, if_pos (by rw [← h.len]; simpa using hlt)]
        exact hv _ rfl
      · cases hd
    · rename_i e
      rw [if_neg e, ← Array.getD_eq_getD_getElem?]
      exact h1 i d' hd

/-! ### Objects that become others -/
def DV.bent : DV → Option Nat
  | .ptr k _ | .asl k _ | .rref k _ => some k
  | _ => none
structure ExtM (F : Nat → Nat → Prop) (w : World) (st : St) (L : Nat → RLoc) (F' : Nat → Nat → Prop) (w' : World) (st' : St) (L' : Nat → RLoc) (ks : List Nat) : Prop where
  fm : ∀ b j, F b j → F' b j
  cell : ∀ b j, F b j → w'.cell? ⟨b, j, none⟩ = w.cell? ⟨b, j, none⟩
  obj : ∀ k ob, k ∉ ks → st.get k = some ob → ∃ x' z', st'.get k = some ⟨ob.t, x', ob.vir, z'⟩ ∧ L' k = L k ∧ (∀ q, Valid q ob.t ob.x → Valid q ob.t x') ∧ Stay w w' ob.t ob.x (L k)
  ref : ∀ k ob, k ∈ ks → st.get k = some ob → ob.vir = true → ∃ ob', st'.get k = some ob' ∧ ob'.vir = true ∧ L' k = L k
theorem RelV.extM {ks : List Nat} (he : ExtM F w st L F' w' st' L' ks) {d : DV} {v : Value} (hd : ∀ k, d.bent = some k → k ∉ ks) (h : RelV F w st L d v) : RelV F' w' st' L' d v := by
  cases d with
  | any => trivial
  | und => exact h
  | nilsl => exact h
  | data d => exact h.keep he.fm he.cell
  | tup l =>
    obtain ⟨vs, e, h1, h2⟩ := h
    exact ⟨vs, e, h1, fun i d hd => let ⟨u, hu, hr⟩ := h2 i d hd; ⟨u, hu, hr.keep he.fm he.cell⟩⟩
  | rop d =>
    obtain ⟨b, o, cs, e, h1, h2⟩ := h
    exact ⟨b, o, cs, e, Rel.keep he.fm he.cell _ _ _ _ (by simp) h1, h2.keep he.fm he.cell⟩
  | ptr k p =>
    obtain ⟨ob, g, o, h1, h2, h3, h4⟩ := h
    obtain ⟨x', z', e1, e2, e3, e4⟩ := he.obj k ob (hd k rfl) h1
    exact ⟨_, g, o, e1, h2, e3 _ h3, by rw [e2]; exact (e4 _ _ _ h3 h4).1⟩
  | asl k p =>
    obtain ⟨ob, g, o, n, t, h1, h0, h2, h3, h4⟩ := h
    obtain ⟨x', z', e1, e2, e3, e4⟩ := he.obj k ob (hd k rfl) h1
    exact ⟨_, g, o, n, t, e1, h0, h2, e3 _ h3, by rw [e2]; exact (e4 _ _ _ h3 h4).1⟩
  | ref k =>
    obtain ⟨ob, h1, h2, h3⟩ := h
    by_cases hk : k ∈ ks
    · obtain ⟨ob', e1, e2, e3⟩ := he.ref k ob hk h1 h2
      exact ⟨_, e1, e2, by rw [e3]; exact h3⟩
    · obtain ⟨x', z', e1, e2, e3, e4⟩ := he.obj k ob hk h1
      exact ⟨_, e1, h2, by rw [e2]; exact h3⟩
  | rref k p =>
    obtain ⟨ob, g, o, t, h1, h0, h3, h4, h5⟩ := h
    obtain ⟨x', z', e1, e2, e3, e4⟩ := he.obj k ob (hd k rfl) h1
    obtain ⟨f1, f2⟩ := e4 _ _ _ h3 h4
    exact ⟨_, g, o, t, e1, h0, e3 _ h3, by rw [e2]; exact f1, by rw [f2 _ h0]; exact h5⟩
theorem dim_bent (ks : List Nat) (d : DV) : ∀ j, (dim ks d).bent = some j → j ∉ ks := by
  intro j h
  cases d <;> simp only [dim] at h <;> try (simp [DV.bent] at h; done)
  all_goals
    split at h
    · simp [DV.bent] at h
    · rename_i hc
      simp only [DV.bent, Option.some.injEq] at h
      subst h
      simpa using hc
theorem dim_rel {ks : List Nat} {d : DV} {v : Value} (h : RelV F w st L d v) : RelV F w st L (dim ks d) v := by
  cases d <;> simp only [dim] <;> try exact h
  all_goals (split; trivial; exact h)
theorem FR.nextMut {fr : List DV} {a : Act} {ks : List Nat} (he : ExtM F w st L F' w' st' L' ks) (h : FR F w st L fr a) {dst : Option Tmp} {d : DV} {v : Value} (hv : ∀ t, dst = some t → RelV F' w' st' L' d v) :
    FR F' w' st' L' (setFr (fr.map (dim ks)) dst d) (a.put dst v) := by
  have h1 : ∀ i d, (fr.map (dim ks))[i]? = some d → RelV F' w' st' L' d (a.tmps.getD i undef) := by
    intro i d hd
    rw [List.getElem?_map, Option.map_eq_some_iff] at hd
    obtain ⟨d0, hd, rfl⟩ := hd
    exact (dim_rel (h.rel i d0 hd)).extM he (dim_bent ks d0)
  cases dst with
  | none => exact ⟨by simp [setFr, Act.put, h.len], h1, h.glob.keep he.fm he.cell⟩
  | some t =>
    refine ⟨by simp [setFr, Act.put, h.len], fun i d' hd => ?_, h.glob.keep he.fm he.cell⟩
    simp only [setFr, List.getElem?_set] at hd
    simp only [Act.put, Array.getD_eq_getD_getElem?, Array.getElem?_setIfInBounds]
    split at hd
    · rename_i e
      subst e
      split at hd
      · rename_i hlt
        simp only [Option.some.injEq] at hd
        subst hd
        rw [if_pos rfl, if_pos (by rw [← h.len]; simpa using hlt)]
        exact hv _ rfl
      · cases hd
    · rename_i e
      rw [if_neg e, ← Array.getD_eq_getD_getElem?]
      exact h1 i d' hd

/-- what is true of names, of objects that are not gone -/
theorem RelV.extK {ks : List Nat} (hfm : ∀ b j, F b j → F' b j) (hcell : ∀ b j, F b j → w'.cell? ⟨b, j, none⟩ = w.cell? ⟨b, j, none⟩)
    (hobj : ∀ k ob, k ∉ ks → st.get k = some ob → st'.get k = some ob ∧ L' k = L k ∧ Stay w w' ob.t ob.x (L k)) {d : DV} {v : Value} (hd : ∀ k, d.key = some k → k ∉ ks) (h : RelV F w st L d v) : RelV F' w' st' L' d v := by
  cases d with
  | any => trivial
  | und => exact h
  | nilsl => exact h
  | data d => exact h.keep hfm hcell
  | tup l =>
    obtain ⟨vs, e, h1, h2⟩ := h
    exact ⟨vs, e, h1, fun i d hd => let ⟨u, hu, hr⟩ := h2 i d hd; ⟨u, hu, hr.keep hfm hcell⟩⟩
  | rop d =>
    obtain ⟨b, o, cs, e, h1, h2⟩ := h
    exact ⟨b, o, cs, e, Rel.keep hfm hcell _ _ _ _ (by simp) h1, h2.keep hfm hcell⟩
  | ptr k p =>
    obtain ⟨ob, g, o, h1, h2, h3, h4⟩ := h
    obtain ⟨e1, e2, e4⟩ := hobj k ob (hd k rfl) h1
    exact ⟨_, g, o, e1, h2, h3, by rw [e2]; exact (e4 _ _ _ h3 h4).1⟩
  | asl k p =>
    obtain ⟨ob, g, o, n, t, h1, h0, h2, h3, h4⟩ := h
    obtain ⟨e1, e2, e4⟩ := hobj k ob (hd k rfl) h1
    exact ⟨_, g, o, n, t, e1, h0, h2, h3, by rw [e2]; exact (e4 _ _ _ h3 h4).1⟩
  | ref k =>
    obtain ⟨ob, h1, h2, h3⟩ := h
    obtain ⟨e1, e2, e4⟩ := hobj k ob (hd k rfl) h1
    exact ⟨_, e1, h2, by rw [e2]; exact h3⟩
  | rref k p =>
    obtain ⟨ob, g, o, t, h1, h0, h3, h4, h5⟩ := h
    obtain ⟨e1, e2, e4⟩ := hobj k ob (hd k rfl) h1
    obtain ⟨f1, f2⟩ := e4 _ _ _ h3 h4
    exact ⟨_, g, o, t, e1, h0, h3, by rw [e2]; exact f1, by rw [f2 _ h0]; exact h5⟩
theorem forgets_key (ks : List Nat) (d : DV) : ∀ j, (forgets ks d).key = some j → j ∉ ks := by
  intro j h
  cases d <;> simp only [forgets] at h <;> try (simp [DV.key] at h; done)
  all_goals
    split at h
    · simp [DV.key] at h
    · rename_i hc
      simp only [DV.key, Option.some.injEq] at h
      subst h
      simpa using hc
theorem forgets_rel {ks : List Nat} {d : DV} {v : Value} (h : RelV F w st L d v) : RelV F w st L (forgets ks d) v := by
  cases d <;> simp only [forgets] <;> try exact h
  all_goals (split; trivial; exact h)

theorem get_put_same (k : Nat) (o : DObj) : ∀ st : St, (st.put k o).get k = some o
  | [] => by simp [St.put, St.get]
  | (j, q) :: r => by
    simp only [St.put]
    split
    · simp [St.get]
    · rename_i h; simp only [St.get, if_neg h]; exact get_put_same k o r
theorem get_put_other {k j : Nat} (o : DObj) (h : j ≠ k) : ∀ st : St, (st.put k o).get j = st.get j
  | [] => by simp [St.put, St.get, Ne.symm h]
  | (i, q) :: r => by
    simp only [St.put]
    split
    · rename_i e; subst e; simp [St.get, Ne.symm h]
    · simp only [St.get]; split; rfl; exact get_put_other o h r

/-- what an operand stands for -/
theorem resolve_ptr {d : DV} {k : Nat} {p : List Step} {o : DObj} (h : resolve st d = .ptr k p o) : d = .ptr k p ∧ st.get k = some o := by
  cases d <;> simp only [resolve] at h <;> try (cases h; done)
  all_goals (split at h <;> cases h)
  exact ⟨rfl, by assumption⟩
theorem resolve_asl {d : DV} {k : Nat} {p : List Step} {o : DObj} (h : resolve st d = .asl k p o) : d = .asl k p ∧ st.get k = some o := by
  cases d <;> simp only [resolve] at h <;> try (cases h; done)
  all_goals (split at h <;> cases h)
  exact ⟨rfl, by assumption⟩
theorem resolve_ref {d : DV} {k : Nat} {o : DObj} (h : resolve st d = .ref k o) : d = .ref k ∧ st.get k = some o := by
  cases d <;> simp only [resolve] at h <;> try (cases h; done)
  all_goals (split at h <;> cases h)
  exact ⟨rfl, by assumption⟩
theorem resolve_rref {d : DV} {k : Nat} {p : List Step} {o : DObj} (h : resolve st d = .rref k p o) : d = .rref k p ∧ st.get k = some o := by
  cases d <;> simp only [resolve] at h <;> try (cases h; done)
  all_goals (split at h <;> cases h)
  rename_i hg
  exact ⟨rfl, hg⟩
theorem resolve_data {d : DV} {x : DVal} (h : resolve st d = .data x) : d = .data x := by
  cases d <;> simp only [resolve] at h <;> first | (cases h <;> rfl) | (split at h <;> cases h)
theorem resolve_rop {d : DV} {x : DVal} (h : resolve st d = .rop x) : d = .rop x := by
  cases d <;> simp only [resolve] at h <;> first | (cases h <;> rfl) | (split at h <;> cases h)
theorem resolve_tup {d : DV} {x : List DVal} (h : resolve st d = .tup x) : d = .tup x := by
  cases d <;> simp only [resolve] at h <;> first | (cases h <;> rfl) | (split at h <;> cases h)
theorem resolve_nilsl {d : DV} (h : resolve st d = .nilsl) : d = .nilsl := by
  cases d <;> simp only [resolve] at h <;> first | (cases h <;> rfl) | (split at h <;> cases h)

theorem FR.eval {fr : List DV} {a : Act} (h : FR F w st L fr a) (x : Operand) : RelV F w st L (dval fr x) (a.eval x) := by
  cases x with
  | tmp t =>
    simp only [dval, Act.eval]
    rw [List.getD_eq_getElem?_getD]
    cases e : fr[t]? with
    | none => trivial
    | some d => exact h.rel t d e
  | const v =>
    simp only [dval, Act.eval]
    cases v <;> simp only [constV] <;> try trivial
    · exact ⟨_, rfl, rfl, rfl⟩
    · exact ⟨_, rfl, rfl, rfl⟩
    · exact ⟨_, rfl, rfl, rfl⟩
    · split <;> first | (rename_i e; cases e; rfl) | trivial
  | global g =>
    simp only [dval, Act.eval]
    split
    · rename_i d hd
      obtain ⟨cs, h1, h2⟩ := h.glob g d hd
      exact ⟨g, 0, cs, rfl, h1, h2⟩
    · trivial
  | func f => trivial
/-- the operand as it is resolved -/
theorem FR.rv {fr : List DV} {a : Act} (h : FR F w st L fr a) (x : Operand) : RelV F w st L (resolve st (dval fr x)).dv (a.eval x) := by
  have he := h.eval x
  cases hd : dval fr x <;> rw [hd] at he <;> simp only [resolve] <;> try exact he
  all_goals (split <;> first | exact he | trivial)
end Go.D
