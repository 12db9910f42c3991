/- The abstract machine D, part B: places within data. -/
import Derived.Test.YtbcjiicaekfjlaaDA
namespace Go.D

inductive Step where
  | fst | snd | idx (i : Nat) | de
  deriving DecidableEq, Inhabited

structure DVal where
  t : Ty
  x : t.den

def get : List Step → (t : Ty) → t.den → Option DVal
  | [], t, x => some ⟨t, x⟩
  | .fst :: p, .pair a _, x => get p a x.1
  | .snd :: p, .pair _ b, x => get p b x.2
  | .idx i :: p, .arr _ t, xs => get p t (List.getD xs i t.dflt)
  | .idx i :: p, .own t, xs => get p t (List.getD xs i t.dflt)
  | .de :: p, .box t, x => get p t x
  | _ :: _, _, _ => none

def set : List Step → (t : Ty) → t.den → DVal → Option t.den
  | [], t, _, v => if h : v.t = t then some (h ▸ v.x) else none
  | .fst :: p, .pair a _, x, v => (set p a x.1 v).map fun y => (y, x.2)
  | .snd :: p, .pair _ b, x, v => (set p b x.2 v).map fun y => (x.1, y)
  | .idx i :: p, .arr _ t, xs, v => (set p t (List.getD xs i t.dflt) v).map fun y => List.set xs i y
  | .idx i :: p, .own t, xs, v => (set p t (List.getD xs i t.dflt) v).map fun y => List.set xs i y
  | .de :: p, .box t, x, v => set p t x v
  | _ :: _, _, _, _ => none

/-- every index of the way is in its range -/
def Valid : List Step → (t : Ty) → t.den → Prop
  | [], _, _ => True
  | .fst :: p, .pair a _, x => Valid p a x.1
  | .snd :: p, .pair _ b, x => Valid p b x.2
  | .idx i :: p, .arr n t, xs => i < n ∧ Valid p t (List.getD xs i t.dflt)
  | .idx i :: p, .own t, xs => i < List.length xs ∧ Valid p t (List.getD xs i t.dflt)
  | .de :: p, .box t, x => Valid p t x
  | _ :: _, _, _ => False

/-- where the place lies: block and cell -/
def Loc (w : World) : List Step → Ty → Nat → Nat → Nat → Nat → Prop
  | [], _, g, o, g', o' => g' = g ∧ o' = o
  | .fst :: p, .pair a _, g, o, g', o' => Loc w p a g o g' o'
  | .snd :: p, .pair a b, g, o, g', o' => Loc w p b g (o + a.size) g' o'
  | .idx i :: p, .arr _ t, g, o, g', o' => Loc w p t g (o + i * t.size) g' o'
  | .idx i :: p, .own t, g, o, g', o' => ∃ g1 n cap, w.cell? ⟨g, o, none⟩ = some (.slice (some ⟨g1, 0, none⟩) n cap) ∧ Loc w p t g1 (i * t.size) g' o'
  | .de :: p, .box t, g, o, g', o' => ∃ g1, w.cell? ⟨g, o, none⟩ = some (.pointer (some ⟨g1, 0, none⟩)) ∧ Loc w p t g1 0 g' o'
  | _ :: _, _, _, _, _, _ => False

/-- block g holds the cells cs from cell o on, and none of it is frozen -/
def HoldsAt (w : World) (g o : Nat) (cs : List Value) : Prop :=
  ∃ cur tag pre post, w.heap[g]? = some (.cells cur tag (0, 0)) ∧ cur.toList = pre ++ cs ++ post ∧ pre.length = o

def splice (cur : List Value) (o : Nat) (c : List Value) : List Value := cur.take o ++ c ++ cur.drop (o + c.length)

/-- w2 is w, but that block g holds c from cell o on -/
structure Upd (w w2 : World) (g o : Nat) (c : List Value) : Prop where
  os : w2.os = w.os
  tape : w2.tape = w.tape
  output : w2.output = w.output
  size : w2.heap.size = w.heap.size
  other : ∀ b, b ≠ g → w2.heap[b]? = w.heap[b]?
  at_ : ∃ cur tag, w.heap[g]? = some (.cells cur tag (0, 0)) ∧ w2.heap[g]? = some (.cells (splice cur.toList o c).toArray tag (0, 0))

variable {F : Nat → Nat → Prop} {w w2 : World}

theorem HoldsAt.left {g o : Nat} {c1 c2 : List Value} (h : HoldsAt w g o (c1 ++ c2)) : HoldsAt w g o c1 := by
  obtain ⟨cur, tag, pre, post, e1, e2, e3⟩ := h
  exact ⟨cur, tag, pre, c2 ++ post, e1, by simp [e2], e3⟩
theorem HoldsAt.right {g o : Nat} {c1 c2 : List Value} (h : HoldsAt w g o (c1 ++ c2)) : HoldsAt w g (o + c1.length) c2 := by
  obtain ⟨cur, tag, pre, post, e1, e2, e3⟩ := h
  exact ⟨cur, tag, pre ++ c1, post, e1, by simp [e2], by simp [e3]⟩
theorem HoldsAt.cell {g o : Nat} {cs : List Value} (h : HoldsAt w g o cs) (j : Nat) (v : Value) (hj : cs[j]? = some v) : w.cell? ⟨g, o + j, none⟩ = some v := by
  obtain ⟨cur, tag, pre, post, e1, e2, e3⟩ := h
  rw [cell_of_row _ _ _ _ _ _ e1, ← Array.getElem?_toList, e2, ← e3]
  rw [List.append_assoc, List.getElem?_append_right (by omega)]
  have : pre.length + j - pre.length = j := by omega
  rw [this, List.getElem?_append_left (List.getElem?_eq_some_iff.1 hj).1, hj]
theorem HoldsAt.whole {g : Nat} {cur : Array Value} {tag : TypeId} (h : w.heap[g]? = some (.cells cur tag (0, 0))) : HoldsAt w g 0 cur.toList :=
  ⟨cur, tag, [], [], h, by simp, rfl⟩
theorem HoldsAt.eq {g : Nat} {cur : Array Value} {tag : TypeId} {cs : List Value} (h : HoldsAt w g 0 cs) (hg : w.heap[g]? = some (.cells cur tag (0, 0))) : ∃ post, cur.toList = cs ++ post := by
  obtain ⟨cur', tag', pre, post, e1, e2, e3⟩ := h
  rw [hg] at e1
  injection e1 with e1
  injection e1 with e1 _ _
  subst e1
  have : pre = [] := List.length_eq_zero_iff.1 e3
  exact ⟨post, by rw [e2, this]; simp⟩
theorem HoldsAt.other {g o : Nat} {cs : List Value} (h : HoldsAt w g o cs) (he : w2.heap[g]? = w.heap[g]?) : HoldsAt w2 g o cs := by
  obtain ⟨cur, tag, pre, post, e1, e2, e3⟩ := h
  exact ⟨cur, tag, pre, post, by rw [he]; exact e1, e2, e3⟩

theorem splice_mid (pre cs post c : List Value) (o : Nat) (h : o = pre.length) (hl : c.length = cs.length) : splice (pre ++ cs ++ post) o c = pre ++ c ++ post := by
  subst h
  have e : pre ++ cs ++ post = pre ++ (cs ++ post) := by simp
  rw [splice, e, List.take_left, List.drop_length_add_append, hl, List.drop_left]

/-- in pure data a way's rightness is the type's alone, and so is where the place lies -/
theorem Valid.pure : ∀ (p : List Step) (t : Ty) (x y : t.den), t.pure = true → Valid p t x → Valid p t y := by
  intro p
  induction p with
  | nil => intro t x y _ _; trivial
  | cons s p ih =>
    intro t x y hp hv
    cases s <;> cases t <;> simp only [Valid] at hv ⊢ <;> simp only [Ty.pure, Bool.and_eq_true] at hp
    · exact ih _ _ _ hp.1 hv
    · exact ih _ _ _ hp.2 hv
    · exact ⟨hv.1, ih _ _ _ hp hv.2⟩
    · cases hp
    · cases hp
theorem Loc.pure : ∀ (p : List Step) (t : Ty) (g o g' o' : Nat), t.pure = true → Loc w p t g o g' o' → Loc w2 p t g o g' o' := by
  intro p
  induction p with
  | nil => intro t g o g' o' _ h; exact h
  | cons s p ih =>
    intro t g o g' o' hp hv
    cases s <;> cases t <;> simp only [Loc] at hv ⊢ <;> simp only [Ty.pure, Bool.and_eq_true] at hp
    · exact ih _ _ _ _ _ hp.1 hv
    · exact ih _ _ _ _ _ hp.2 hv
    · exact ih _ _ _ _ _ hp hv
    · cases hp
    · cases hp
/-- the place is told by the way -/
theorem Loc.det : ∀ (p : List Step) (t : Ty) (g o g1 o1 g2 o2 : Nat), Loc w p t g o g1 o1 → Loc w p t g o g2 o2 → g1 = g2 ∧ o1 = o2 := by
  intro p
  induction p with
  | nil => rintro t g o g1 o1 g2 o2 ⟨rfl, rfl⟩ ⟨rfl, rfl⟩; exact ⟨rfl, rfl⟩
  | cons s p ih =>
    intro t g o g1 o1 g2 o2 h1 h2
    cases s <;> cases t <;> simp only [Loc] at h1 h2
    · exact ih _ _ _ _ _ _ _ h1 h2
    · exact ih _ _ _ _ _ _ _ h1 h2
    · exact ih _ _ _ _ _ _ _ h1 h2
    · obtain ⟨a, n, c, e, h1⟩ := h1
      obtain ⟨b, m, d, f, h2⟩ := h2
      rw [e] at f
      injection f with f
      injection f with f _ _
      injection f with f
      injection f with f _ _
      subst f
      exact ih _ _ _ _ _ _ _ h1 h2
    · obtain ⟨a, e, h1⟩ := h1
      obtain ⟨b, f, h2⟩ := h2
      rw [e] at f
      injection f with f
      injection f with f
      injection f with f
      injection f with f _ _
      subst f
      exact ih _ _ _ _ _ _ _ h1 h2
theorem Loc.append : ∀ (p q : List Step) (t : Ty) (x : t.den) (v : DVal) (g o g1 o1 g2 o2 : Nat), get p t x = some v → Loc w p t g o g1 o1 → Loc w q v.t g1 o1 g2 o2 → Loc w (p ++ q) t g o g2 o2 := by
  intro p
  induction p with
  | nil => rintro q t x v g o g1 o1 g2 o2 hg ⟨rfl, rfl⟩ h2; simp only [get, Option.some.injEq] at hg; subst hg; exact h2
  | cons s p ih =>
    intro q t x v g o g1 o1 g2 o2 hg h1 h2
    cases s <;> cases t <;> simp only [Loc, get, List.cons_append] at h1 hg ⊢ <;> try (exact ih _ _ _ _ _ _ _ _ _ _ hg h1 h2)
    · obtain ⟨a, n, c, e, h1⟩ := h1
      exact ⟨a, n, c, e, ih _ _ _ _ _ _ _ _ _ _ hg h1 h2⟩
    · obtain ⟨a, e, h1⟩ := h1
      exact ⟨a, e, ih _ _ _ _ _ _ _ _ _ _ hg h1 h2⟩
theorem Valid.append : ∀ (p q : List Step) (t : Ty) (x : t.den) (v : DVal), get p t x = some v → Valid p t x → Valid q v.t v.x → Valid (p ++ q) t x := by
  intro p
  induction p with
  | nil => rintro q t x v hg _ h2; simp only [get, Option.some.injEq] at hg; subst hg; exact h2
  | cons s p ih =>
    intro q t x v hg h1 h2
    cases s <;> cases t <;> simp only [Valid, get, List.cons_append] at h1 hg ⊢
    · exact ih _ _ _ _ hg h1 h2
    · exact ih _ _ _ _ hg h1 h2
    · exact ⟨h1.1, ih _ _ _ _ hg h1.2 h2⟩
    · exact ⟨h1.1, ih _ _ _ _ hg h1.2 h2⟩
    · exact ih _ _ _ _ hg h1 h2
theorem get_append : ∀ (p q : List Step) (t : Ty) (x : t.den) (v : DVal), get p t x = some v → get (p ++ q) t x = get q v.t v.x := by
  intro p
  induction p with
  | nil => rintro q t x v hg; simp only [get, Option.some.injEq] at hg; subst hg; rfl
  | cons s p ih =>
    intro q t x v hg
    cases s <;> cases t <;> simp only [get, List.cons_append] at hg ⊢ <;> first | exact ih _ _ _ _ hg | cases hg

theorem Loc.mem : ∀ (p : List Step) (t : Ty) (x : t.den) (cs : List Value) (bs : List Nat) (g o g' o' : Nat), Rel F w t x cs bs → HoldsAt w g o cs → Valid p t x → Loc w p t g o g' o' → g' ∈ g :: bs := by
  intro p
  induction p with
  | nil => intro t x cs bs g o g' o' _ _ _ hl; simp [Loc] at hl; simp [hl.1]
  | cons s p ih =>
    intro t x cs bs g o g' o' hr hh hv hl
    cases s with
    | fst =>
      cases t <;> simp only [Loc] at hl <;> try exact hl.elim
      obtain ⟨c1, c2, b1, b2, e1, e2, h1, h2⟩ := hr
      subst e1
      have := ih _ _ _ _ _ _ _ _ h1 hh.left hv hl
      simp only [List.mem_cons, e2, List.mem_append] at this ⊢
      rcases this with h | h <;> simp [h]
    | snd =>
      cases t <;> simp only [Loc] at hl <;> try exact hl.elim
      obtain ⟨c1, c2, b1, b2, e1, e2, h1, h2⟩ := hr
      subst e1
      have hh2 := hh.right
      rw [Rel.length _ _ _ _ h1] at hh2
      have := ih _ _ _ _ _ _ _ _ h2 hh2 hv hl
      simp only [List.mem_cons, e2, List.mem_append] at this ⊢
      rcases this with h | h <;> simp [h]
    | idx i =>
      cases t <;> simp only [Loc] at hl <;> try exact hl.elim
      · rename_i n t
        obtain ⟨hn, hL⟩ := hr
        obtain ⟨hi, hv⟩ := hv
        rw [← hn] at hi
        obtain ⟨cl, c, cr, bl, b, br, e1, e2, e3, e4, e5, e6⟩ := hL.split (sz := t.size) (fun x c b h => Rel.length t x c b h) i hi
        rw [List.getD_eq_getElem?_getD, List.getElem?_eq_getElem hi, Option.getD_some] at hv
        subst e1
        have hh2 := hh.left.right
        rw [e3] at hh2
        have := ih _ _ _ _ _ _ _ _ e4 hh2 hv hl
        simp only [List.mem_cons, e2, List.mem_append] at this ⊢
        rcases this with h | h <;> simp [h]
      · rename_i t
        obtain ⟨g1, n, cap, hc, hl⟩ := hl
        obtain ⟨hi, hv⟩ := hv
        rcases hr with ⟨e, _⟩ | ⟨g2, cap2, cur, tag, bs', e1, e2, e3, e4, e5, e6, e7⟩
        · subst e; simp at hi
        · have hc2 := hh.cell 0 _ (by rw [e1]; rfl)
          rw [Nat.add_zero, hc] at hc2
          injection hc2 with hc2
          injection hc2 with hc2 _ _
          injection hc2 with hc2
          injection hc2 with hc2 _ _
          subst hc2
          obtain ⟨cl, c, cr, bl, b, br, f1, f2, f3, f4, f5, f6⟩ := e7.split (sz := t.size) (fun x c b h => Rel.length t x c b h) i hi
          rw [List.getD_eq_getElem?_getD, List.getElem?_eq_getElem hi, Option.getD_some] at hv
          have hh2 : HoldsAt w g1 (i * t.size) c := ⟨cur, tag, cl, cr ++ cur.toList.drop (List.length x * t.size), e3, by rw [← List.append_assoc, ← f1]; exact (List.take_append_drop _ _).symm, f3⟩
          have := ih _ _ _ _ _ _ _ _ f4 hh2 hv hl
          simp only [List.mem_cons, e2, f2, List.mem_append] at this ⊢
          rcases this with h | h <;> simp [h]
    | de =>
      cases t <;> simp only [Loc] at hl <;> try exact hl.elim
      rename_i t
      obtain ⟨g1, hc, hl⟩ := hl
      obtain ⟨g2, cur, tag, bs', e1, e2, e3, e4⟩ := hr
      have hc2 := hh.cell 0 _ (by rw [e1]; rfl)
      rw [Nat.add_zero, hc] at hc2
      injection hc2 with hc2
      injection hc2 with hc2
      injection hc2 with hc2
      injection hc2 with hc2 _ _
      subst hc2
      have := ih _ _ _ _ _ _ _ _ e4 (.whole e3) hv hl
      simp only [List.mem_cons, e2] at this ⊢
      rcases this with h | h <;> simp [h]

/-- What is at a place. -/
theorem get_spec : ∀ (p : List Step) (t : Ty) (x : t.den) (cs : List Value) (bs : List Nat) (g o g' o' : Nat) (v : DVal), Rel F w t x cs bs → HoldsAt w g o cs → Valid p t x → Loc w p t g o g' o' →
    get p t x = some v → ∃ cs' bs', Rel F w v.t v.x cs' bs' ∧ HoldsAt w g' o' cs' ∧ ∀ b ∈ bs', b ∈ bs := by
  intro p
  induction p with
  | nil =>
    intro t x cs bs g o g' o' v hr hh _ hl hg
    simp only [Loc] at hl
    simp only [get, Option.some.injEq] at hg
    subst hg
    obtain ⟨rfl, rfl⟩ := hl
    exact ⟨cs, bs, hr, hh, fun _ h => h⟩
  | cons s p ih =>
    intro t x cs bs g o g' o' v hr hh hv hl hg
    cases s with
    | fst =>
      cases t <;> simp only [Loc] at hl <;> try exact hl.elim
      obtain ⟨c1, c2, b1, b2, e1, e2, h1, h2⟩ := hr
      subst e1
      obtain ⟨cs', bs', k1, k2, k3⟩ := ih _ _ _ _ _ _ _ _ _ h1 hh.left hv hl hg
      exact ⟨cs', bs', k1, k2, fun b hb => by rw [e2]; exact List.mem_append_left _ (k3 b hb)⟩
    | snd =>
      cases t <;> simp only [Loc] at hl <;> try exact hl.elim
      obtain ⟨c1, c2, b1, b2, e1, e2, h1, h2⟩ := hr
      subst e1
      have hh2 := hh.right
      rw [Rel.length _ _ _ _ h1] at hh2
      obtain ⟨cs', bs', k1, k2, k3⟩ := ih _ _ _ _ _ _ _ _ _ h2 hh2 hv hl hg
      exact ⟨cs', bs', k1, k2, fun b hb => by rw [e2]; exact List.mem_append_right _ (k3 b hb)⟩
    | idx i =>
      cases t <;> simp only [Loc] at hl <;> try exact hl.elim
      · rename_i n t
        obtain ⟨hn, hL⟩ := hr
        obtain ⟨hi, hv⟩ := hv
        rw [← hn] at hi
        obtain ⟨cl, c, cr, bl, b, br, e1, e2, e3, e4, e5, e6⟩ := hL.split (sz := t.size) (fun x c b h => Rel.length t x c b h) i hi
        simp only [get] at hg
        rw [List.getD_eq_getElem?_getD, List.getElem?_eq_getElem hi, Option.getD_some] at hv hg
        subst e1
        have hh2 := hh.left.right
        rw [e3] at hh2
        obtain ⟨cs', bs', k1, k2, k3⟩ := ih _ _ _ _ _ _ _ _ _ e4 hh2 hv hl hg
        exact ⟨cs', bs', k1, k2, fun b hb => by rw [e2]; simp [k3 b hb]⟩
      · rename_i t
        obtain ⟨g1, n, cap, hc, hl⟩ := hl
        obtain ⟨hi, hv⟩ := hv
        rcases hr with ⟨e, _⟩ | ⟨g2, cap2, cur, tag, bs', e1, e2, e3, e4, e5, e6, e7⟩
        · subst e; simp at hi
        · have hc2 := hh.cell 0 _ (by rw [e1]; rfl)
          rw [Nat.add_zero, hc] at hc2
          injection hc2 with hc2
          injection hc2 with hc2 _ _
          injection hc2 with hc2
          injection hc2 with hc2 _ _
          subst hc2
          obtain ⟨cl, c, cr, bl, b, br, f1, f2, f3, f4, f5, f6⟩ := e7.split (sz := t.size) (fun x c b h => Rel.length t x c b h) i hi
          simp only [get] at hg
          rw [List.getD_eq_getElem?_getD, List.getElem?_eq_getElem hi, Option.getD_some] at hv hg
          have hh2 : HoldsAt w g1 (i * t.size) c := ⟨cur, tag, cl, cr ++ cur.toList.drop (List.length x * t.size), e3, by rw [← List.append_assoc, ← f1]; exact (List.take_append_drop _ _).symm, f3⟩
          obtain ⟨cs', bs2, k1, k2, k3⟩ := ih _ _ _ _ _ _ _ _ _ f4 hh2 hv hl hg
          exact ⟨cs', bs2, k1, k2, fun b hb => by rw [e2, f2]; simp [k3 b hb]⟩
    | de =>
      cases t <;> simp only [Loc] at hl <;> try exact hl.elim
      rename_i t
      obtain ⟨g1, hc, hl⟩ := hl
      obtain ⟨g2, cur, tag, bs', e1, e2, e3, e4⟩ := hr
      have hc2 := hh.cell 0 _ (by rw [e1]; rfl)
      rw [Nat.add_zero, hc] at hc2
      injection hc2 with hc2
      injection hc2 with hc2
      injection hc2 with hc2
      injection hc2 with hc2 _ _
      subst hc2
      obtain ⟨cs', bs2, k1, k2, k3⟩ := ih _ _ _ _ _ _ _ _ _ e4 (.whole e3) hv hl hg
      exact ⟨cs', bs2, k1, k2, fun b hb => by rw [e2]; simp [k3 b hb]⟩

/-- a cell that is not written -/
theorem Upd.cell {g o : Nat} {c : List Value} (hu : Upd w w2 g o c) (b j : Nat) (h : b ≠ g ∨ j < o ∨ o + c.length ≤ j) (hin : o + c.length ≤ ((w.heap[g]?).map fun x => match x with | .cells c _ _ => c.size | _ => 0).getD 0) :
    w2.cell? ⟨b, j, none⟩ = w.cell? ⟨b, j, none⟩ := by
  by_cases hb : b = g
  · subst hb
    obtain ⟨cur, tag, e1, e2⟩ := hu.at_
    rw [cell_of_row _ _ _ _ _ _ e1, cell_of_row _ _ _ _ _ _ e2]
    rw [e1] at hin
    simp only [Option.map_some, Option.getD_some] at hin
    rw [List.getElem?_toArray, ← Array.getElem?_toList]
    unfold splice
    have hl : (List.take o cur.toList).length = o := by simp; omega
    rcases h with h | h | h
    · exact absurd rfl h
    · rw [List.append_assoc, List.getElem?_append_left (by omega), List.getElem?_take, if_pos h]
    · rw [List.getElem?_append_right (by simp; omega), List.getElem?_drop]
      congr 1
      simp
      omega
  · exact World.cell?_of_block (w := w) (hu.other b hb)
theorem HoldsAt.fits {g o : Nat} {cs c : List Value} (h : HoldsAt w g o cs) (hl : c.length = cs.length) : o + c.length ≤ ((w.heap[g]?).map fun x => match x with | .cells c _ _ => c.size | _ => 0).getD 0 := by
  obtain ⟨cur, tag, pre, post, e1, e2, e3⟩ := h
  have := congrArg List.length e2
  simp at this
  rw [e1]
  simp only [Option.map_some, Option.getD_some]
  omega

theorem Upd.cellsAt {g o : Nat} {c cs pre post : List Value} {cur : Array Value} {tag : TypeId} (hu : Upd w w2 g o c) (h1 : w.heap[g]? = some (.cells cur tag (0, 0))) (h2 : cur.toList = pre ++ cs ++ post)
    (h3 : o = pre.length) (h4 : c.length = cs.length) : w2.heap[g]? = some (.cells (pre ++ c ++ post).toArray tag (0, 0)) := by
  obtain ⟨cur', tag', e1, e2⟩ := hu.at_
  rw [h1] at e1
  injection e1 with e1
  injection e1 with e1 e1' _
  subst e1 e1'
  rw [e2, h2, splice_mid _ _ _ _ _ h3 h4]

/-- A store of pure data into a place. The blocks stay the same. -/
theorem set_spec : ∀ (p : List Step) (t : Ty) (x : t.den) (cs : List Value) (bs : List Nat) (g o g' o' : Nat) (u v : DVal) (x2 : t.den) (c : List Value), Rel F w t x cs bs → HoldsAt w g o cs →
    (g :: bs).Nodup → (∀ j, o' ≤ j → j < o' + c.length → ¬ F g' j) → (∀ b j, F b j → w2.cell? ⟨b, j, none⟩ = w.cell? ⟨b, j, none⟩) → Valid p t x → Loc w p t g o g' o' → get p t x = some u → u.t.pure = true → set p t x v = some x2 → Rel F w v.t v.x c [] → Upd w w2 g' o' c →
    ∃ cs2, Rel F w2 t x2 cs2 bs ∧ cs2.length = cs.length ∧ (∀ cur tag pre post, w.heap[g]? = some (.cells cur tag (0, 0)) → cur.toList = pre ++ cs ++ post → pre.length = o →
      w2.heap[g]? = some (.cells (pre ++ cs2 ++ post).toArray tag (0, 0))) := by
  intro p
  induction p with
  | nil =>
    intro t x cs bs g o g' o' u v x2 c hr hh hnd hF hFk _ hl hg hp hs hv hu
    simp only [Loc] at hl
    obtain ⟨rfl, rfl⟩ := hl
    simp only [get, Option.some.injEq] at hg
    subst hg
    simp only [set] at hs
    split at hs
    · rename_i h
      obtain ⟨vt, vx⟩ := v
      simp only at h
      subst h
      simp only [Option.some.injEq] at hs
      subst hs
      have hb : bs = [] := Rel.pure _ _ _ _ hp hr
      subst hb
      have hlen : c.length = cs.length := by rw [Rel.length _ _ _ _ hv, Rel.length _ _ _ _ hr]
      exact ⟨c, Rel.keep (fun _ _ h => h) hFk _ _ _ _ (by simp) hv, hlen, fun cur tag pre post h1 h2 h3 => hu.cellsAt h1 h2 h3.symm hlen⟩
    · cases hs
  | cons s p ih =>
    intro t x cs bs g o g' o' u v x2 c hr hh hnd hF hFk hv hl hg hp hs hvr hu
    cases s with
    | fst =>
      cases t <;> simp only [Loc] at hl <;> try exact hl.elim
      obtain ⟨c1, c2, b1, b2, e1, e2, h1, h2⟩ := hr
      subst e1 e2
      simp only [set, Option.map_eq_some_iff] at hs
      obtain ⟨y, hs, rfl⟩ := hs
      have hnd1 : (g :: b1).Nodup := hnd.sublist (by simp)
      have hm1 := Loc.mem p _ _ _ _ _ _ _ _ h1 hh.left hv hl
      obtain ⟨cs2, k1, k2, k3⟩ := ih _ _ _ _ _ _ _ _ _ _ _ _ h1 hh.left hnd1 hF hFk hv hl hg hp hs hvr hu
      refine ⟨cs2 ++ c2, ⟨cs2, c2, b1, b2, rfl, rfl, k1, Rel.keep (fun _ _ h => h) hFk _ _ _ _ (fun b hb => hu.other b fun e => ?_) h2⟩, by simp [k2], fun cur tag pre post g1 g2 g3 => ?_⟩
      · subst e
        simp only [List.nodup_cons, List.mem_append, List.nodup_append] at hnd
        simp only [List.mem_cons] at hm1
        rcases hm1 with rfl | hm1
        · exact hnd.1 (.inr hb)
        · exact hnd.2.2.2 _ hm1 _ hb rfl
      · have := k3 cur tag pre (c2 ++ post) g1 (by simp [g2]) g3
        simpa using this
    | snd =>
      cases t <;> simp only [Loc] at hl <;> try exact hl.elim
      obtain ⟨c1, c2, b1, b2, e1, e2, h1, h2⟩ := hr
      subst e1 e2
      simp only [set, Option.map_eq_some_iff] at hs
      obtain ⟨y, hs, rfl⟩ := hs
      have hh2 := hh.right
      have hlc := Rel.length _ _ _ _ h1
      rw [hlc] at hh2
      have hnd1 : (g :: b2).Nodup := hnd.sublist (by simp)
      have hm1 := Loc.mem p _ _ _ _ _ _ _ _ h2 hh2 hv hl
      obtain ⟨cs2, k1, k2, k3⟩ := ih _ _ _ _ _ _ _ _ _ _ _ _ h2 hh2 hnd1 hF hFk hv hl hg hp hs hvr hu
      refine ⟨c1 ++ cs2, ⟨c1, cs2, b1, b2, rfl, rfl, Rel.keep (fun _ _ h => h) hFk _ _ _ _ (fun b hb => hu.other b fun e => ?_) h1, k1⟩, by simp [k2], fun cur tag pre post g1 g2 g3 => ?_⟩
      · subst e
        simp only [List.nodup_cons, List.mem_append, List.nodup_append] at hnd
        simp only [List.mem_cons] at hm1
        rcases hm1 with rfl | hm1
        · exact hnd.1 (.inl hb)
        · exact hnd.2.2.2 _ hb _ hm1 rfl
      · have := k3 cur tag (pre ++ c1) post g1 (by simp [g2]) (by simp [g3, hlc])
        simpa using this
    | idx i =>
      cases t <;> simp only [Loc] at hl <;> try exact hl.elim
      · rename_i n t
        obtain ⟨hn, hL⟩ := hr
        obtain ⟨hi, hv⟩ := hv
        rw [← hn] at hi
        obtain ⟨cl, c0, cr, bl, b, br, e1, e2, e3, e4, e5, e6⟩ := hL.split (sz := t.size) (fun x c b h => Rel.length t x c b h) i hi
        simp only [get] at hg
        simp only [set, Option.map_eq_some_iff] at hs
        rw [List.getD_eq_getElem?_getD, List.getElem?_eq_getElem hi, Option.getD_some] at hv hg hs
        obtain ⟨y, hs, rfl⟩ := hs
        subst e1 e2
        have hh2 := hh.left.right
        rw [e3] at hh2
        have hnd1 : (g :: b).Nodup := hnd.sublist (by simp)
        have hm1 := Loc.mem p _ _ _ _ _ _ _ _ e4 hh2 hv hl
        obtain ⟨cs2, k1, k2, k3⟩ := ih _ _ _ _ _ _ _ _ _ _ _ _ e4 hh2 hnd1 hF hFk hv hl hg hp hs hvr hu
        have hout : ∀ q, q ∈ bl ∨ q ∈ br → w2.heap[q]? = w.heap[q]? := fun q hq => hu.other q fun e => by
          subst e
          simp only [List.nodup_cons, List.mem_append, List.nodup_append] at hnd
          simp only [List.mem_cons] at hm1
          rcases hm1 with rfl | hm1
          · exact hnd.1 (by rcases hq with h | h <;> simp [h])
          · rcases hq with h | h
            · exact hnd.2.1.2.2 _ h _ hm1 rfl
            · exact hnd.2.2.2 _ (.inr hm1) _ h rfl
        refine ⟨cl ++ cs2 ++ cr, ⟨by simp [hn], RelL.put hi (e5.mono_mem fun x c b hs h => Rel.keep (fun _ _ h => h) hFk _ _ _ _ (fun q hq => hout q (.inl (hs q hq))) h) k1
          (e6.mono_mem fun x c b hs h => Rel.keep (fun _ _ h => h) hFk _ _ _ _ (fun q hq => hout q (.inr (hs q hq))) h)⟩, by simp [k2], fun cur tag pre post g1 g2 g3 => ?_⟩
        have := k3 cur tag (pre ++ cl) (cr ++ post) g1 (by simp [g2]) (by simp [g3, e3])
        simpa using this
      · rename_i t
        obtain ⟨g1, n, cap, hc, hl⟩ := hl
        obtain ⟨hi, hv⟩ := hv
        rcases hr with ⟨e, _⟩ | ⟨g2, cap2, cur, tag, bs', e1, e2, e3, e4, e5, e6, e7⟩
        · subst e; simp at hi
        · have hc2 := hh.cell 0 _ (by rw [e1]; rfl)
          rw [Nat.add_zero, hc] at hc2
          injection hc2 with hc2
          injection hc2 with hc2 _ _
          injection hc2 with hc2
          injection hc2 with hc2 _ _
          subst hc2
          obtain ⟨cl, c0, cr, bl, b, br, f1, f2, f3, f4, f5, f6⟩ := e7.split (sz := t.size) (fun x c b h => Rel.length t x c b h) i hi
          simp only [get] at hg
          simp only [set, Option.map_eq_some_iff] at hs
          rw [List.getD_eq_getElem?_getD, List.getElem?_eq_getElem hi, Option.getD_some] at hv hg hs
          obtain ⟨y, hs, rfl⟩ := hs
          have hcut : cur.toList = cl ++ c0 ++ (cr ++ cur.toList.drop (List.length x * t.size)) := by rw [← List.append_assoc, ← f1]; exact (List.take_append_drop _ _).symm
          have hh2 : HoldsAt w g1 (i * t.size) c0 := ⟨cur, tag, cl, _, e3, hcut, f3⟩
          subst e2 f2
          have hnd1 : (g1 :: b).Nodup := by
            have : (g1 :: (bl ++ b ++ br)).Nodup := (List.nodup_cons.1 hnd).2
            exact this.sublist (by simp)
          have hm1 := Loc.mem p _ _ _ _ _ _ _ _ f4 hh2 hv hl
          obtain ⟨cs2, k1, k2, k3⟩ := ih _ _ _ _ _ _ _ _ _ _ _ _ f4 hh2 hnd1 hF hFk hv hl hg hp hs hvr hu
          have hg1 := k3 cur tag cl _ e3 hcut f3
          have hne : g' ≠ g := fun e => by
            subst e
            simp only [List.nodup_cons, List.mem_cons, List.mem_append, not_or] at hnd
            simp only [List.mem_cons] at hm1
            rcases hm1 with h | h
            · exact hnd.1.1 h
            · exact hnd.1.2.1.2 h
          have hout : ∀ q, q ∈ bl ∨ q ∈ br → w2.heap[q]? = w.heap[q]? := fun q hq => hu.other q fun e => by
            subst e
            simp only [List.nodup_cons, List.mem_append, List.nodup_append] at hnd
            simp only [List.mem_cons] at hm1
            rcases hm1 with rfl | hm1
            · exact hnd.2.1 (by rcases hq with h | h <;> simp [h])
            · rcases hq with h | h
              · exact hnd.2.2.1.2.2 _ h _ hm1 rfl
              · exact hnd.2.2.2.2 _ (.inr hm1) _ h rfl
          have hlx : List.length (cl ++ c0 ++ cr) = List.length x * t.size := by rw [← f1]; exact Rel.lengthL e7
          refine ⟨cs, .inr ⟨g1, cap2, _, tag, _, by rw [e1, List.length_set], rfl, hg1, by simpa using e4, e5, ?_, ?_⟩, rfl, fun cur' tag' pre post h1 h2 h3 => ?_⟩
          · have h5 := congrArg List.length hcut
            simp only [List.length_append, Array.length_toList] at h5
            rw [← e6]
            simp only [List.size_toArray, List.length_append, k2]
            omega
          · have hput := RelL.put hi (f5.mono_mem fun x c b hs h => Rel.keep (fun _ _ h => h) hFk _ _ _ _ (fun q hq => hout q (.inl (hs q hq))) h) k1
              (f6.mono_mem fun x c b hs h => Rel.keep (fun _ _ h => h) hFk _ _ _ _ (fun q hq => hout q (.inr (hs q hq))) h)
            have hl2 : List.length (cl ++ cs2 ++ cr) = List.length x * t.size := by rw [← hlx]; simp [k2]
            have e9 : List.take (List.length (x.set i y) * t.size) (cl ++ cs2 ++ (cr ++ List.drop (List.length x * t.size) cur.toList)).toArray.toList = cl ++ cs2 ++ cr := by
              rw [List.length_set, ← hl2]
              show List.take _ (cl ++ cs2 ++ (cr ++ _)) = _
              rw [← List.append_assoc (cl ++ cs2), List.take_left]
            rw [e9]; exact hput
          · rw [hu.other g (fun e => hne e.symm), h1, ← h2]
    | de =>
      cases t <;> simp only [Loc] at hl <;> try exact hl.elim
      rename_i t
      obtain ⟨g1, hc, hl⟩ := hl
      obtain ⟨g2, cur, tag, bs', e1, e2, e3, e4⟩ := hr
      have hc2 := hh.cell 0 _ (by rw [e1]; rfl)
      rw [Nat.add_zero, hc] at hc2
      injection hc2 with hc2
      injection hc2 with hc2
      injection hc2 with hc2
      injection hc2 with hc2 _ _
      subst hc2 e2
      have hnd1 : (g1 :: bs').Nodup := (List.nodup_cons.1 hnd).2
      have hm1 := Loc.mem p _ _ _ _ _ _ _ _ e4 (.whole e3) hv hl
      obtain ⟨cs2, k1, k2, k3⟩ := ih _ _ _ _ _ _ _ _ _ _ _ _ e4 (.whole e3) hnd1 hF hFk hv hl hg hp hs hvr hu
      have hg1 := k3 cur tag [] [] e3 (by simp) rfl
      have hne : g' ≠ g := fun e => (List.nodup_cons.1 hnd).1 (e ▸ hm1)
      refine ⟨cs, ⟨g1, _, tag, _, e1, rfl, hg1, by simpa using k1⟩, rfl, fun cur' tag' pre post h1 h2 h3 => ?_⟩
      rw [hu.other g (fun e => hne e.symm), h1, ← h2]
end Go.D
