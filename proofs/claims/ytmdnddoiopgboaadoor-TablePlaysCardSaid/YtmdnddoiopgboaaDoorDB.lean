/- The abstract machine D, part B: places within data. -/
import Derived.Test.YtmdnddoiopgboaaDoorDA
namespace Go.D

inductive Step where
  | fst | snd | idx (i : Nat) | de
  deriving DecidableEq, Inhabited

structure DVal where
  t : Ty
  x : t.den
/-- the package's variables that are read, and what they hold -/
def gvars : List (Nat × DVal) := [(0, ⟨.arr 32 (.int .u8), ((0 : Int) :: (1 : Int) :: (28 : Int) :: (2 : Int) :: (29 : Int) :: (14 : Int) :: (24 : Int) :: (3 : Int) :: (30 : Int) :: (22 : Int) :: (20 : Int) :: (15 : Int) :: (25 : Int) :: (17 : Int) :: (4 : Int) :: (8 : Int) :: (31 : Int) :: (27 : Int) :: (13 : Int) :: (23 : Int) :: (21 : Int) :: (19 : Int) :: (16 : Int) :: (7 : Int) :: (26 : Int) :: (12 : Int) :: (18 : Int) :: (6 : Int) :: (11 : Int) :: (5 : Int) :: (10 : Int) :: (9 : Int) :: [] : List Int)⟩), (1, ⟨.arr 64 (.int .u8), ((0 : Int) :: (1 : Int) :: (56 : Int) :: (2 : Int) :: (57 : Int) :: (49 : Int) :: (28 : Int) :: (3 : Int) :: (61 : Int) :: (58 : Int) :: (42 : Int) :: (50 : Int) :: (38 : Int) :: (29 : Int) :: (17 : Int) :: (4 : Int) :: (62 : Int) :: (47 : Int) :: (59 : Int) :: (36 : Int) :: (45 : Int) :: (43 : Int) :: (51 : Int) :: (22 : Int) :: (53 : Int) :: (39 : Int) :: (33 : Int) :: (30 : Int) :: (24 : Int) :: (18 : Int) :: (12 : Int) :: (5 : Int) :: (63 : Int) :: (55 : Int) :: (48 : Int) :: (27 : Int) :: (60 : Int) :: (41 : Int) :: (37 : Int) :: (16 : Int) :: (46 : Int) :: (35 : Int) :: (44 : Int) :: (21 : Int) :: (52 : Int) :: (32 : Int) :: (23 : Int) :: (11 : Int) :: (54 : Int) :: (26 : Int) :: (40 : Int) :: (15 : Int) :: (34 : Int) :: (20 : Int) :: (31 : Int) :: (10 : Int) :: (25 : Int) :: (14 : Int) :: (19 : Int) :: (9 : Int) :: (13 : Int) :: (8 : Int) :: (7 : Int) :: (6 : Int) :: [] : List Int)⟩)]

def get : List Step → (t : Ty) → t.den → Option DVal
  | [], t, x => some ⟨t, x⟩
  | .fst :: p, .pair a _, x => get p a x.1
  | .snd :: p, .pair _ b, x => get p b x.2
  | .idx i :: p, .arr _ t, xs => get p t (List.getD xs i t.dflt)
  | .idx i :: p, .own t, xs => get p t (List.getD xs i t.dflt)
  | .de :: p, .box t, x => get p t x
  | _ :: _, _, _ => none

def set : List Step → (t : Ty) → t.den → DVal → Option t.den
  | [], t, _, v => if h : v.t = t then some (h ▸ v.x) else none
  | .fst :: p, .pair a _, x, v => (set p a x.1 v).map fun y => (y, x.2)
  | .snd :: p, .pair _ b, x, v => (set p b x.2 v).map fun y => (x.1, y)
  | .idx i :: p, .arr _ t, xs, v => (set p t (List.getD xs i t.dflt) v).map fun y => List.set xs i y
  | .idx i :: p, .own t, xs, v => (set p t (List.getD xs i t.dflt) v).map fun y => List.set xs i y
  | .de :: p, .box t, x, v => set p t x v
  | _ :: _, _, _, _ => none

/-- every index of the way is in its range -/
def Valid : List Step → (t : Ty) → t.den → Prop
  | [], _, _ => True
  | .fst :: p, .pair a _, x => Valid p a x.1
  | .snd :: p, .pair _ b, x => Valid p b x.2
  | .idx i :: p, .arr n t, xs => i < n ∧ Valid p t (List.getD xs i t.dflt)
  | .idx i :: p, .own t, xs => i < List.length xs ∧ Valid p t (List.getD xs i t.dflt)
  | .de :: p, .box t, x => Valid p t x
  | _ :: _, _, _ => False

/-- where the place lies: block and cell -/
def Loc (w : World) : List Step → Ty → Nat → Nat → Nat → Nat → Prop
  | [], _, g, o, g', o' => g' = g ∧ o' = o
  | .fst :: p, .pair a _, g, o, g', o' => Loc w p a g o g' o'
  | .snd :: p, .pair a b, g, o, g', o' => Loc w p b g (o + a.size) g' o'
  | .idx i :: p, .arr _ t, g, o, g', o' => Loc w p t g (o + i * t.size) g' o'
  | .idx i :: p, .own t, g, o, g', o' => ∃ g1 n cap, w.cell? ⟨g, o, none⟩ = some (.slice (some ⟨g1, 0, none⟩) n cap) ∧ Loc w p t g1 (i * t.size) g' o'
  | .de :: p, .box t, g, o, g', o' => ∃ g1, w.cell? ⟨g, o, none⟩ = some (.pointer (some ⟨g1, 0, none⟩)) ∧ Loc w p t g1 0 g' o'
  | _ :: _, _, _, _, _, _ => False

/-- block g holds the cells cs from cell o on, and none of it is frozen -/
def HoldsAt (w : World) (g o : Nat) (cs : List Value) : Prop :=
  ∃ cur tag pre post, w.heap[g]? = some (.cells cur tag (0, 0)) ∧ cur.toList = pre ++ cs ++ post ∧ pre.length = o

def splice (cur : List Value) (o : Nat) (c : List Value) : List Value := cur.take o ++ c ++ cur.drop (o + c.length)

/-- w2 is w, but that block g holds c from cell o on -/
structure Upd (w w2 : World) (g o : Nat) (c : List Value) : Prop where
  os : w2.os = w.os
  tape : w2.tape = w.tape
  output : w2.output = w.output
  size : w2.heap.size = w.heap.size
  other : ∀ b, b ≠ g → w2.heap[b]? = w.heap[b]?
  at_ : ∃ cur tag, w.heap[g]? = some (.cells cur tag (0, 0)) ∧ w2.heap[g]? = some (.cells (splice cur.toList o c).toArray tag (0, 0))

variable {F : Nat → Nat → Prop} {w w2 : World}

theorem HoldsAt.left {g o : Nat} {c1 c2 : List Value} (h : HoldsAt w g o (c1 ++ c2)) : HoldsAt w g o c1 := by
  obtain ⟨cur, tag, pre, post, e1, e2, e3⟩ := h
  exact ⟨cur, tag, pre, c2 ++ post, e1, by simp [e2], e3⟩
theorem HoldsAt.right {g o : Nat} {c1 c2 : List Value} (h : HoldsAt w g o (c1 ++ c2)) : HoldsAt w g (o + c1.length) c2 := by
  obtain ⟨cur, tag, pre, post, e1, e2, e3⟩ := h
  exact ⟨cur, tag, pre ++ c1, post, e1, by simp [e2], by simp [e3]⟩
theorem HoldsAt.cell {g o : Nat} {cs : List Value} (h : HoldsAt w g o cs) (j : Nat) (v : Value) (hj : cs[j]? = some v) : w.cell? ⟨g, o + j, none⟩ = some v := by
  obtain ⟨cur, tag, pre, post, e1, e2, e3⟩ := h
  rw [cell_of_row _ _ _ _ _ _ e1, ← Array.getElem?_toList, e2, ← e3]
  rw [List.append_assoc, List.getElem?_append_right (by omega)]
  have : pre.length + j - pre.length = j := by omega
  rw [this, List.getElem?_append_left (List.getElem?_eq_some_iff.1 hj).1, hj]
theorem HoldsAt.whole {g : Nat} {cur : Array Value} {tag : TypeId} (h : w.heap[g]? = some (.cells cur tag (0, 0))) : HoldsAt w g 0 cur.toList :=
  ⟨cur, tag, [], [], h, by simp, rfl⟩
theorem HoldsAt.eq {g : Nat} {cur : Array Value} {tag : TypeId} {cs : List Value} (h : HoldsAt w g 0 cs) (hg : w.heap[g]? = some (.cells cur tag (0, 0))) : ∃ post, cur.toList = cs ++ post := by
  obtain ⟨cur', tag', pre, post, e1, e2, e3⟩ := h
  rw [hg] at e1
  injection e1 with e1
  injection e1 with e1 _ _
  subst e1
  have : pre = [] := List.length_eq_zero_iff.1 e3
  exact ⟨post, by rw [e2, this]; simp⟩
theorem HoldsAt.other {g o : Nat} {cs : List Value} (h : HoldsAt w g o cs) (he : w2.heap[g]? = w.heap[g]?) : HoldsAt w2 g o cs := by
  obtain ⟨cur, tag, pre, post, e1, e2, e3⟩ := h
  exact ⟨cur, tag, pre, post, by rw [he]; exact e1, e2, e3⟩

theorem splice_mid (pre cs post c : List Value) (o : Nat) (h : o = pre.length) (hl : c.length = cs.length) : splice (pre ++ cs ++ post) o c = pre ++ c ++ post := by
  subst h
  have e : pre ++ cs ++ post = pre ++ (cs ++ post) := by simp
  rw [splice, e, List.take_left, List.drop_length_add_append, hl, List.drop_left]

/-- in pure data a way's rightness is the type's alone, and so is where the place lies -/
theorem Valid.pure : ∀ (p : List Step) (t : Ty) (x y : t.den), t.pure = true → Valid p t x → Valid p t y := by
  intro p
  induction p with
  | nil => intro t x y _ _; trivial
  | cons s p ih =>
    intro t x y hp hv
    cases s <;> cases t <;> simp only [Valid] at hv ⊢ <;> simp only [Ty.pure, Bool.and_eq_true] at hp
    · exact ih _ _ _ hp.1 hv
    · exact ih _ _ _ hp.2 hv
    · exact ⟨hv.1, ih _ _ _ hp hv.2⟩
    · cases hp
    · cases hp
theorem Loc.pure : ∀ (p : List Step) (t : Ty) (g o g' o' : Nat), t.pure = true → Loc w p t g o g' o' → Loc w2 p t g o g' o' := by
  intro p
  induction p with
  | nil => intro t g o g' o' _ h; exact h
  | cons s p ih =>
    intro t g o g' o' hp hv
    cases s <;> cases t <;> simp only [Loc] at hv ⊢ <;> simp only [Ty.pure, Bool.and_eq_true] at hp
    · exact ih _ _ _ _ _ hp.1 hv
    · exact ih _ _ _ _ _ hp.2 hv
    · exact ih _ _ _ _ _ hp hv
    · cases hp
    · cases hp
/-- the place is told by the way -/
theorem Loc.det : ∀ (p : List Step) (t : Ty) (g o g1 o1 g2 o2 : Nat), Loc w p t g o g1 o1 → Loc w p t g o g2 o2 → g1 = g2 ∧ o1 = o2 := by
  intro p
  induction p with
  | nil => rintro t g o g1 o1 g2 o2 ⟨rfl, rfl⟩ ⟨rfl, rfl⟩; exact ⟨rfl, rfl⟩
  | cons s p ih =>
    intro t g o g1 o1 g2 o2 h1 h2
    cases s <;> cases t <;> simp only [Loc] at h1 h2
    · exact ih _ _ _ _ _ _ _ h1 h2
    · exact ih _ _ _ _ _ _ _ h1 h2
    · exact ih _ _ _ _ _ _ _ h1 h2
    · obtain ⟨a, n, c, e, h1⟩ := h1
      obtain ⟨b, m, d, f, h2⟩ := h2
      rw [e] at f
      injection f with f
      injection f with f _ _
      injection f with f
      injection f with f _ _
      subst f
      exact ih _ _ _ _ _ _ _ h1 h2
    · obtain ⟨a, e, h1⟩ := h1
      obtain ⟨b, f, h2⟩ := h2
      rw [e] at f
      injection f with f
      injection f with f
      injection f with f
      injection f with f _ _
      subst f
      exact ih _ _ _ _ _ _ _ h1 h2
theorem Loc.append : ∀ (p q : List Step) (t : Ty) (x : t.den) (v : DVal) (g o g1 o1 g2 o2 : Nat), get p t x = some v → Loc w p t g o g1 o1 → Loc w q v.t g1 o1 g2 o2 → Loc w (p ++ q) t g o g2 o2 := by
  intro p
  induction p with
  | nil => rintro q t x v g o g1 o1 g2 o2 hg ⟨rfl, rfl⟩ h2; simp only [get, Option.some.injEq] at hg; subst hg; exact h2
  | cons s p ih =>
    intro q t x v g o g1 o1 g2 o2 hg h1 h2
    cases s <;> cases t <;> simp only [Loc, get, List.cons_append] at h1 hg ⊢ <;> try (exact ih _ _ _ _ _ _ _ _ _ _ hg h1 h2)
    · obtain ⟨a, n, c, e, h1⟩ := h1
      exact ⟨a, n, c, e, ih _ _ _ _ _ _ _ _ _ _ hg h1 h2⟩
    · obtain ⟨a, e, h1⟩ := h1
      exact ⟨a, e, ih _ _ _ _ _ _ _ _ _ _ hg h1 h2⟩
theorem Valid.append : ∀ (p q : List Step) (t : Ty) (x : t.den) (v : DVal), get p t x = some v → Valid p t x → Valid q v.t v.x → Valid (p ++ q) t x := by
  intro p
  induction p with
  | nil => rintro q t x v hg _ h2; simp only [get, Option.some.injEq] at hg; subst hg; exact h2
  | cons s p ih =>
    intro q t x v hg h1 h2
    cases s <;> cases t <;> simp only [Valid, get, List.cons_append] at h1 hg ⊢
    · exact ih _ _ _ _ hg h1 h2
    · exact ih _ _ _ _ hg h1 h2
    · exact ⟨h1.1, ih _ _ _ _ hg h1.2 h2⟩
    · exact ⟨h1.1, ih _ _ _ _ hg h1.2 h2⟩
    · exact ih _ _ _ _ hg h1 h2
theorem get_append : ∀ (p q : List Step) (t : Ty) (x : t.den) (v : DVal), get p t x = some v → get (p ++ q) t x = get q v.t v.x := by
  intro p
  induction p with
  | nil => rintro q t x v hg; simp only [get, Option.some.injEq] at hg; subst hg; rfl
  | cons s p ih =>
    intro q t x v hg
    cases s <;> cases t <;> simp only [get, List.cons_append] at hg ⊢ <;> first | exact ih _ _ _ _ hg | cases hg

theorem Loc.mem : ∀ (p : List Step) (t : Ty) (x : t.den) (cs : List Value) (bs : List Nat) (g o g' o' : Nat), Rel F w t x cs bs → HoldsAt w g o cs → Valid p t x → Loc w p t g o g' o' → g' ∈ g :: bs := by
  intro p
  induction p with
  | nil => intro t x cs bs g o g' o' _ _ _ hl; simp [Loc] at hl; simp [hl.1]
  | cons s p ih =>
    intro t x cs bs g o g' o' hr hh hv hl
    cases s with
    | fst =>
      cases t <;> simp only [Loc] at hl <;> try exact hl.elim
      obtain ⟨c1, c2, b1, b2, e1, e2, h1, h2⟩ := hr
      subst e1
      have := ih _ _ _ _ _ _ _ _ h1 hh.left hv hl
      simp only [List.mem_cons, e2, List.mem_append] at this ⊢
      rcases this with h | h <;> simp [h]
    | snd =>
      cases t <;> simp only [Loc] at hl <;> try exact hl.elim
      obtain ⟨c1, c2, b1, b2, e1, e2, h1, h2⟩ := hr
      subst e1
      have hh2 := hh.right
      rw [Rel.length _ _ _ _ h1] at hh2
      have := ih _ _ _ _ _ _ _ _ h2 hh2 hv hl
      simp only [List.mem_cons, e2, List.mem_append] at this ⊢
      rcases this with h | h <;> simp [h]
    | idx i =>
      cases t <;> simp only [Loc] at hl <;> try exact hl.elim
      · rename_i n t
        obtain ⟨hn, hL⟩ := hr
        obtain ⟨hi, hv⟩ := hv
        rw [← hn] at hi
        obtain ⟨cl, c, cr, bl, b, br, e1, e2, e3, e4, e5, e6⟩ := hL.split (sz := t.size) (fun x c b h => Rel.length t x c b h) i hi
        rw [List.getD_eq_getElem?_getD, List.getElem?_eq_getElem hi, Option.getD_some] at hv
        subst e1
        have hh2 := hh.left.right
        rw [e3] at hh2
        have := ih _ _ _ _ _ _ _ _ e4 hh2 hv hl
        simp only [List.mem_cons, e2, List.mem_append] at this ⊢
        rcases this with h | h <;> simp [h]
      · rename_i t
        obtain ⟨g1, n, cap, hc, hl⟩ := hl
        obtain ⟨hi, hv⟩ := hv
        rcases hr with ⟨e, _⟩ | ⟨g2, cap2, cur, tag, bs', e1, e2, e3, e4, e5, e6, e7⟩
        · subst e; simp at hi
        · have hc2 := hh.cell 0 _ (by rw [e1]; rfl)
          rw [Nat.add_zero, hc] at hc2
          injection hc2 with hc2
          injection hc2 with hc2 _ _
          injection hc2 with hc2
          injection hc2 with hc2 _ _
          subst hc2
          obtain ⟨cl, c, cr, bl, b, br, f1, f2, f3, f4, f5, f6⟩ := e7.split (sz := t.size) (fun x c b h => Rel.length t x c b h) i hi
          rw [List.getD_eq_getElem?_getD, List.getElem?_eq_getElem hi, Option.getD_some] at hv
          have hh2 : HoldsAt w g1 (i * t.size) c := ⟨cur, tag, cl, cr ++ cur.toList.drop (List.length x * t.size), e3, by rw [← List.append_assoc, ← f1]; exact (List.take_append_drop _ _).symm, f3⟩
          have := ih _ _ _ _ _ _ _ _ f4 hh2 hv hl
          simp only [List.mem_cons, e2, f2, List.mem_append] at this ⊢
          rcases this with h | h <;> simp [h]
    | de =>
      cases t <;> simp only [Loc] at hl <;> try exact hl.elim
      rename_i t
      obtain ⟨g1, hc, hl⟩ := hl
      obtain ⟨g2, cur, tag, bs', e1, e2, e3, e4⟩ := hr
      have hc2 := hh.cell 0 _ (by rw [e1]; rfl)
      rw [Nat.add_zero, hc] at hc2
      injection hc2 with hc2
      injection hc2 with hc2
      injection hc2 with hc2
      injection hc2 with hc2 _ _
      subst hc2
      have := ih _ _ _ _ _ _ _ _ e4 (.whole e3) hv hl
      simp only [List.mem_cons, e2] at this ⊢
      rcases this with h | h <;> simp [h]

/-- What is at a place. -/
theorem get_spec : ∀ (p : List Step) (t : Ty) (x : t.den) (cs : List Value) (bs : List Nat) (g o g' o' : Nat) (v : DVal), Rel F w t x cs bs → HoldsAt w g o cs → Valid p t x → Loc w p t g o g' o' →
    get p t x = some v → ∃ cs' bs', Rel F w v.t v.x cs' bs' ∧ HoldsAt w g' o' cs' ∧ ∀ b ∈ bs', b ∈ bs := by
  intro p
  induction p with
  | nil =>
    intro t x cs bs g o g' o' v hr hh _ hl hg
    simp only [Loc] at hl
    simp only [get, Option.some.injEq] at hg
    subst hg
    obtain ⟨rfl, rfl⟩ := hl
    exact ⟨cs, bs, hr, hh, fun _ h => h⟩
  | cons s p ih =>
    intro t x cs bs g o g' o' v hr hh hv hl hg
    cases s with
    | fst =>
      cases t <;> simp only [Loc] at hl <;> try exact hl.elim
      obtain ⟨c1, c2, b1, b2, e1, e2, h1, h2⟩ := hr
      subst e1
      obtain ⟨cs', bs', k1, k2, k3⟩ := ih _ _ _ _ _ _ _ _ _ h1 hh.left hv hl hg
      exact ⟨cs', bs', k1, k2, fun b hb => by rw [e2]; exact List.mem_append_left _ (k3 b hb)⟩
    | snd =>
      cases t <;> simp only [Loc] at hl <;> try exact hl.elim
      obtain ⟨c1, c2, b1, b2, e1, e2, h1, h2⟩ := hr
      subst e1
      have hh2 := hh.right
      rw [Rel.length _ _ _ _ h1] at hh2
      obtain ⟨cs', bs', k1, k2, k3⟩ := ih _ _ _ _ _ _ _ _ _ h2 hh2 hv hl hg
      exact ⟨cs', bs', k1, k2, fun b hb => by rw [e2]; exact List.mem_append_right _ (k3 b hb)⟩
    | idx i =>
      cases t <;> simp only [Loc] at hl <;> try exact hl.elim
      · rename_i n t
        obtain ⟨hn, hL⟩ := hr
        obtain ⟨hi, hv⟩ := hv
        rw [← hn] at hi
        obtain ⟨cl, c, cr, bl, b, br, e1, e2, e3, e4, e5, e6⟩ := hL.split (sz := t.size) (fun x c b h => Rel.length t x c b h) i hi
        simp only [get] at hg
        rw [List.getD_eq_getElem?_getD, List.getElem?_eq_getElem hi, Option.getD_some] at hv hg
        subst e1
        have hh2 := hh.left.right
        rw [e3] at hh2
        obtain ⟨cs', bs', k1, k2, k3⟩ := ih _ _ _ _ _ _ _ _ _ e4 hh2 hv hl hg
        exact ⟨cs', bs', k1, k2, fun b hb => by rw [e2]; simp [k3 b hb]⟩
      · rename_i t
        obtain ⟨g1, n, cap, hc, hl⟩ := hl
        obtain ⟨hi, hv⟩ := hv
        rcases hr with ⟨e, _⟩ | ⟨g2, cap2, cur, tag, bs', e1, e2, e3, e4, e5, e6, e7⟩
        · subst e; simp at hi
        · have hc2 := hh.cell 0 _ (by rw [e1]; rfl)
          rw [Nat.add_zero, hc] at hc2
          injection hc2 with hc2
          injection hc2 with hc2 _ _
          injection hc2 with hc2
          injection hc2 with hc2 _ _
          subst hc2
          obtain ⟨cl, c, cr, bl, b, br, f1, f2, f3, f4, f5, f6⟩ := e7.split (sz := t.size) (fun x c b h => Rel.length t x c b h) i hi
          simp only [get] at hg
          rw [List.getD_eq_getElem?_getD, List.getElem?_eq_getElem hi, Option.getD_some] at hv hg
          have hh2 : HoldsAt w g1 (i * t.size) c := ⟨cur, tag, cl, cr ++ cur.toList.drop (List.length x * t.size), e3, by rw [← List.append_assoc, ← f1]; exact (List.take_append_drop _ _).symm, f3⟩
          obtain ⟨cs', bs2, k1, k2, k3⟩ := ih _ _ _ _ _ _ _ _ _ f4 hh2 hv hl hg
          exact ⟨cs', bs2, k1, k2, fun b hb => by rw [e2, f2]; simp [k3 b hb]⟩
    | de =>
      cases t <;> simp only [Loc] at hl <;> try exact hl.elim
      rename_i t
      obtain ⟨g1, hc, hl⟩ := hl
      obtain ⟨g2, cur, tag, bs', e1, e2, e3, e4⟩ := hr
      have hc2 := hh.cell 0 _ (by rw [e1]; rfl)
      rw [Nat.add_zero, hc] at hc2
      injection hc2 with hc2
      injection hc2 with hc2
      injection hc2 with hc2
      injection hc2 with hc2 _ _
      subst hc2
      obtain ⟨cs', bs2, k1, k2, k3⟩ := ih _ _ _ _ _ _ _ _ _ e4 (.whole e3) hv hl hg
      exact ⟨cs', bs2, k1, k2, fun b hb => by rw [e2]; simp [k3 b hb]⟩

/-- a cell that is not written -/
theorem Upd.cell {g o : Nat} {c : List Value} (hu : Upd w w2 g o c) (b j : Nat) (h : b ≠ g ∨ j < o ∨ o + c.length ≤ j) (hin : o + c.length ≤ ((w.heap[g]?).map fun x => match x with | .cells c _ _ => c.size | _ => 0).getD 0) :
    w2.cell? ⟨b, j, none⟩ = w.cell? ⟨b, j, none⟩ := by
  by_cases hb : b = g
  · subst hb
    obtain ⟨cur, tag, e1, e2⟩ := hu.at_
    rw [cell_of_row _ _ _ _ _ _ e1, cell_of_row _ _ _ _ _ _ e2]
    rw [e1] at hin
    simp only [Option.map_some, Option.getD_some] at hin
    rw [List.getElem?_toArray, ← Array.getElem?_toList]
    unfold splice
    have hl : (List.take o cur.toList).length = o := by simp; omega
    rcases h with h | h | h
    · exact absurd rfl h
    · rw [List.append_assoc, List.getElem?_append_left (by omega), List.getElem?_take, if_pos h]
    · rw [List.getElem?_append_right (by simp; omega), List.getElem?_drop]
      congr 1
      simp
      omega
  · exact World.cell?_of_block (w := w) (hu.other b hb)
theorem HoldsAt.fits {g o : Nat} {cs c : List Value} (h : HoldsAt w g o cs) (hl : c.length = cs.length) : o + c.length ≤ ((w.heap[g]?).map fun x => match x with | .cells c _ _ => c.size | _ => 0).getD 0 := by
  obtain ⟨cur, tag, pre, post, e1, e2, e3⟩ := h
  have := congrArg List.length e2
  simp at this
  rw [e1]
  simp only [Option.map_some, Option.getD_some]
  omega

theorem Upd.cellsAt {g o : Nat} {c cs pre post : List Value} {cur : Array Value} {tag : TypeId} (hu : Upd w w2 g o c) (h1 : w.heap[g]? = some (.cells cur tag (0, 0))) (h2 : cur.toList = pre ++ cs ++ post)
    (h3 : o = pre.length) (h4 : c.length = cs.length) : w2.heap[g]? = some (.cells (pre ++ c ++ post).toArray tag (0, 0)) := by
  obtain ⟨cur', tag', e1, e2⟩ := hu.at_
  rw [h1] at e1
  injection e1 with e1
  injection e1 with e1 e1' _
  subst e1 e1'
  rw [e2, h2, splice_mid _ _ _ _ _ h3 h4]

/-- A store of pure data into a place. The blocks stay the same. -/
theorem set_spec : ∀ (p : List Step) (t : Ty) (x : t.den) (cs : List Value) (bs : List Nat) (g o g' o' : Nat) (u v : DVal) (x2 : t.den) (c : List Value), Rel F w t x cs bs → HoldsAt w g o cs →
    (g :: bs).Nodup → (∀ j, o' ≤ j → j < o' + c.length → ¬ F g' j) → (∀ b j, F b j → w2.cell? ⟨b, j, none⟩ = w.cell? ⟨b, j, none⟩) → Valid p t x → Loc w p t g o g' o' → get p t x = some u → u.t.pure = true → set p t x v = some x2 → Rel F w v.t v.x c [] → Upd w w2 g' o' c →
    ∃ cs2, Rel F w2 t x2 cs2 bs ∧ cs2.length = cs.length ∧ (∀ cur tag pre post, w.heap[g]? = some (.cells cur tag (0, 0)) → cur.toList = pre ++ cs ++ post → pre.length = o →
      w2.heap[g]? = some (.cells (pre ++ cs2 ++ post).toArray tag (0, 0))) := by
  intro p
  induction p with
  | nil =>
    intro t x cs bs g o g' o' u v x2 c hr hh hnd hF hFk _ hl hg hp hs hv hu
    simp only [Loc] at hl
    obtain ⟨rfl, rfl⟩ := hl
    simp only [get, Option.some.injEq] at hg
    subst hg
    simp only [set] at hs
    split at hs
    · rename_i h
      obtain ⟨vt, vx⟩ := v
      simp only at h
      subst h
      simp only [Option.some.injEq] at hs
      subst hs
      have hb : bs = [] := Rel.pure _ _ _ _ hp hr
      subst hb
      have hlen : c.length = cs.length := by rw [Rel.length _ _ _ _ hv, Rel.length _ _ _ _ hr]
      exact ⟨c, Rel.keep (fun _ _ h => h) hFk _ _ _ _ (by simp) hv, hlen, fun cur tag pre post h1 h2 h3 => hu.cellsAt h1 h2 h3.symm hlen⟩
    · cases hs
  | cons s p ih =>
    intro t x cs bs g o g' o' u v x2 c hr hh hnd hF hFk hv hl hg hp hs hvr hu
    cases s with
    | fst =>
      cases t <;> simp only [Loc] at hl <;> try exact hl.elim
      obtain ⟨c1, c2, b1, b2, e1, e2, h1, h2⟩ := hr
      subst e1 e2
      simp only [set, Option.map_eq_some_iff] at hs
      obtain ⟨y, hs, rfl⟩ := hs
      have hnd1 : (g :: b1).Nodup := hnd.sublist (by simp)
      have hm1 := Loc.mem p _ _ _ _ _ _ _ _ h1 hh.left hv hl
      obtain ⟨cs2, k1, k2, k3⟩ := ih _ _ _ _ _ _ _ _ _ _ _ _ h1 hh.left hnd1 hF hFk hv hl hg hp hs hvr hu
      refine ⟨cs2 ++ c2, ⟨cs2, c2, b1, b2, rfl, rfl, k1, Rel.keep (fun _ _ h => h) hFk _ _ _ _ (fun b hb => hu.other b fun e => ?_) h2⟩, by simp [k2], fun cur tag pre post g1 g2 g3 => ?_⟩
      · subst e
        simp only [List.nodup_cons, List.mem_append, List.nodup_append] at hnd
        simp only [List.mem_cons] at hm1
        rcases hm1 with rfl | hm1
        · exact hnd.1 (.inr hb)
        · exact hnd.2.2.2 _ hm1 _ hb rfl
      · have := k3 cur tag pre (c2 ++ post) g1 (by simp [g2]) g3
        simpa using this
    | snd =>
      cases t <;> simp only [Loc] at hl <;> try exact hl.elim
      obtain ⟨c1, c2, b1, b2, e1, e2, h1, h2⟩ := hr
      subst e1 e2
      simp only [set, Option.map_eq_some_iff] at hs
      obtain ⟨y, hs, rfl⟩ := hs
      have hh2 := hh.right
      have hlc := Rel.length _ _ _ _ h1
      rw [hlc] at hh2
      have hnd1 : (g :: b2).Nodup := hnd.sublist (by simp)
      have hm1 := Loc.mem p _ _ _ _ _ _ _ _ h2 hh2 hv hl
      obtain ⟨cs2, k1, k2, k3⟩ := ih _ _ _ _ _ _ _ _ _ _ _ _ h2 hh2 hnd1 hF hFk hv hl hg hp hs hvr hu
      refine ⟨c1 ++ cs2, ⟨c1, cs2, b1, b2, rfl, rfl, Rel.keep (fun _ _ h => h) hFk _ _ _ _ (fun b hb => hu.other b fun e => ?_) h1, k1⟩, by simp [k2], fun cur tag pre post g1 g2 g3 => ?_⟩
      · subst e
        simp only [List.nodup_cons, List.mem_append, List.nodup_append] at hnd
        simp only [List.mem_cons] at hm1
        rcases hm1 with rfl | hm1
        · exact hnd.1 (.inl hb)
        · exact hnd.2.2.2 _ hb _ hm1 rfl
      · have := k3 cur tag (pre ++ c1) post g1 (by simp [g2]) (by simp [g3, hlc])
        simpa using this
    | idx i =>
      cases t <;> simp only [Loc] at hl <;> try exact hl.elim
      · rename_i n t
        obtain ⟨hn, hL⟩ := hr
        obtain ⟨hi, hv⟩ := hv
        rw [← hn] at hi
        obtain ⟨cl, c0, cr, bl, b, br, e1, e2, e3, e4, e5, e6⟩ := hL.split (sz := t.size) (fun x c b h => Rel.length t x c b h) i hi
        simp only [get] at hg
        simp only [set, Option.map_eq_some_iff] at hs
        rw [List.getD_eq_getElem?_getD, List.getElem?_eq_getElem hi, Option.getD_some] at hv hg hs
        obtain ⟨y, hs, rfl⟩ := hs
        subst e1 e2
        have hh2 := hh.left.right
        rw [e3] at hh2
        have hnd1 : (g :: b).Nodup := hnd.sublist (by simp)
        have hm1 := Loc.mem p _ _ _ _ _ _ _ _ e4 hh2 hv hl
        obtain ⟨cs2, k1, k2, k3⟩ := ih _ _ _ _ _ _ _ _ _ _ _ _ e4 hh2 hnd1 hF hFk hv hl hg hp hs hvr hu
        have hout : ∀ q, q ∈ bl ∨ q ∈ br → w2.heap[q]? = w.heap[q]? := fun q hq => hu.other q fun e => by
          subst e
          simp only [List.nodup_cons, List.mem_append, List.nodup_append] at hnd
          simp only [List.mem_cons] at hm1
          rcases hm1 with rfl | hm1
          · exact hnd.1 (by rcases hq with h | h <;> simp [h])
          · rcases hq with h | h
            · exact hnd.2.1.2.2 _ h _ hm1 rfl
            · exact hnd.2.2.2 _ (.inr hm1) _ h rfl
        refine ⟨cl ++ cs2 ++ cr, ⟨by simp [hn], RelL.put hi (e5.mono_mem fun x c b hs h => Rel.keep (fun _ _ h => h) hFk _ _ _ _ (fun q hq => hout q (.inl (hs q hq))) h) k1
          (e6.mono_mem fun x c b hs h => Rel.keep (fun _ _ h => h) hFk _ _ _ _ (fun q hq => hout q (.inr (hs q hq))) h)⟩, by simp [k2], fun cur tag pre post g1 g2 g3 => ?_⟩
        have := k3 cur tag (pre ++ cl) (cr ++ post) g1 (by simp [g2]) (by simp [g3, e3])
        simpa using this
      · rename_i t
        obtain ⟨g1, n, cap, hc, hl⟩ := hl
        obtain ⟨hi, hv⟩ := hv
        rcases hr with ⟨e, _⟩ | ⟨g2, cap2, cur, tag, bs', e1, e2, e3, e4, e5, e6, e7⟩
        · subst e; simp at hi
        · have hc2 := hh.cell 0 _ (by rw [e1]; rfl)
          rw [Nat.add_zero, hc] at hc2
          injection hc2 with hc2
          injection hc2 with hc2 _ _
          injection hc2 with hc2
          injection hc2 with hc2 _ _
          subst hc2
          obtain ⟨cl, c0, cr, bl, b, br, f1, f2, f3, f4, f5, f6⟩ := e7.split (sz := t.size) (fun x c b h => Rel.length t x c b h) i hi
          simp only [get] at hg
          simp only [set, Option.map_eq_some_iff] at hs
          rw [List.getD_eq_getElem?_getD, List.getElem?_eq_getElem hi, Option.getD_some] at hv hg hs
          obtain ⟨y, hs, rfl⟩ := hs
          have hcut : cur.toList = cl ++ c0 ++ (cr ++ cur.toList.drop (List.length x * t.size)) := by rw [← List.append_assoc, ← f1]; exact (List.take_append_drop _ _).symm
          have hh2 : HoldsAt w g1 (i * t.size) c0 := ⟨cur, tag, cl, _, e3, hcut, f3⟩
          subst e2 f2
          have hnd1 : (g1 :: b).Nodup := by
            have : (g1 :: (bl ++ b ++ br)).Nodup := (List.nodup_cons.1 hnd).2
            exact this.sublist (by simp)
          have hm1 := Loc.mem p _ _ _ _ _ _ _ _ f4 hh2 hv hl
          obtain ⟨cs2, k1, k2, k3⟩ := ih _ _ _ _ _ _ _ _ _ _ _ _ f4 hh2 hnd1 hF hFk hv hl hg hp hs hvr hu
          have hg1 := k3 cur tag cl _ e3 hcut f3
          have hne : g' ≠ g := fun e => by
            subst e
            simp only [List.nodup_cons, List.mem_cons, List.mem_append, not_or] at hnd
            simp only [List.mem_cons] at hm1
            rcases hm1 with h | h
            · exact hnd.1.1 h
            · exact hnd.1.2.1.2 h
          have hout : ∀ q, q ∈ bl ∨ q ∈ br → w2.heap[q]? = w.heap[q]? := fun q hq => hu.other q fun e => by
            subst e
            simp only [List.nodup_cons, List.mem_append, List.nodup_append] at hnd
            simp only [List.mem_cons] at hm1
            rcases hm1 with rfl | hm1
            · exact hnd.2.1 (by rcases hq with h | h <;> simp [h])
            · rcases hq with h | h
              · exact hnd.2.2.1.2.2 _ h _ hm1 rfl
              · exact hnd.2.2.2.2 _ (.inr hm1) _ h rfl
          have hlx : List.length (cl ++ c0 ++ cr) = List.length x * t.size := by rw [← f1]; exact Rel.lengthL e7
          refine ⟨cs, .inr ⟨g1, cap2, _, tag, _, by rw [e1, List.length_set], rfl, hg1, by simpa using e4, e5, ?_, ?_⟩, rfl, fun cur' tag' pre post h1 h2 h3 => ?_⟩
          · have h5 := congrArg List.length hcut
            simp only [List.length_append, Array.length_toList] at h5
            rw [← e6]
            simp only [List.size_toArray, List.length_append, k2]
            omega
          · have hput := RelL.put hi (f5.mono_mem fun x c b hs h => Rel.keep (fun _ _ h => h) hFk _ _ _ _ (fun q hq => hout q (.inl (hs q hq))) h) k1
              (f6.mono_mem fun x c b hs h => Rel.keep (fun _ _ h => h) hFk _ _ _ _ (fun q hq => hout q (.inr (hs q hq))) h)
            have hl2 : List.length (cl ++ cs2 ++ cr) = List.length x * t.size := by rw [← hlx]; simp [k2]
            have e9 : List.take (List.length (x.set i y) * t.size) (cl ++ cs2 ++ (cr ++ List.drop (List.length x * t.size) cur.toList)).toArray.toList = cl ++ cs2 ++ cr := by
              rw [List.length_set, ← hl2]
              show List.take _ (cl ++ cs2 ++ (cr ++ _)) = _
              rw [← List.append_assoc (cl ++ cs2), List.take_left]
            rw [e9]; exact hput
          · rw [hu.other g (fun e => hne e.symm), h1, ← h2]
    | de =>
      cases t <;> simp only [Loc] at hl <;> try exact hl.elim
      rename_i t
      obtain ⟨g1, hc, hl⟩ := hl
      obtain ⟨g2, cur, tag, bs', e1, e2, e3, e4⟩ := hr
      have hc2 := hh.cell 0 _ (by rw [e1]; rfl)
      rw [Nat.add_zero, hc] at hc2
      injection hc2 with hc2
      injection hc2 with hc2
      injection hc2 with hc2
      injection hc2 with hc2 _ _
      subst hc2 e2
      have hnd1 : (g1 :: bs').Nodup := (List.nodup_cons.1 hnd).2
      have hm1 := Loc.mem p _ _ _ _ _ _ _ _ e4 (.whole e3) hv hl
      obtain ⟨cs2, k1, k2, k3⟩ := ih _ _ _ _ _ _ _ _ _ _ _ _ e4 (.whole e3) hnd1 hF hFk hv hl hg hp hs hvr hu
      have hg1 := k3 cur tag [] [] e3 (by simp) rfl
      have hne : g' ≠ g := fun e => (List.nodup_cons.1 hnd).1 (e ▸ hm1)
      refine ⟨cs, ⟨g1, _, tag, _, e1, rfl, hg1, by simpa using k1⟩, rfl, fun cur' tag' pre post h1 h2 h3 => ?_⟩
      rw [hu.other g (fun e => hne e.symm), h1, ← h2]
def Ty.at? : List Step → Ty → Option Ty
  | [], t => some t
  | .fst :: p, .pair a _ => Ty.at? p a
  | .snd :: p, .pair _ b => Ty.at? p b
  | .idx _ :: p, .arr _ t => Ty.at? p t
  | .idx _ :: p, .own t => Ty.at? p t
  | .de :: p, .box t => Ty.at? p t
  | _ :: _, _ => none
theorem Ty.at_pure : ∀ (p : List Step) (t u : Ty), t.pure = true → Ty.at? p t = some u → u.pure = true := by
  intro p
  induction p with
  | nil => intro t u hp h; simp only [Ty.at?, Option.some.injEq] at h; subst h; exact hp
  | cons s p ih =>
    intro t u hp h
    cases s <;> cases t <;> simp only [Ty.at?] at h <;> simp only [Ty.pure, Bool.and_eq_true] at hp <;> first
      | exact ih _ _ hp.1 h
      | exact ih _ _ hp.2 h
      | exact ih _ _ hp h
      | cases h
      | cases hp

/-- where nothing is written that it goes by, a place stays where it is -/
theorem Loc.stay : ∀ (p : List Step) (t : Ty) (x : t.den) (cs : List Value) (bs : List Nat) (g o g1 o1 : Nat), Rel F w t x cs bs → HoldsAt w g o cs → (∀ j, j < cs.length → w2.cell? ⟨g, o + j, none⟩ = w.cell? ⟨g, o + j, none⟩) →
    (∀ b ∈ bs, w2.heap[b]? = w.heap[b]?) → Valid p t x → Loc w p t g o g1 o1 → Loc w2 p t g o g1 o1 ∧ ∀ u, Ty.at? p t = some (.own u) → w2.cell? ⟨g1, o1, none⟩ = w.cell? ⟨g1, o1, none⟩ := by
  intro p
  induction p with
  | nil =>
    intro t x cs bs g o g1 o1 hr hh hc hb _ hl
    refine ⟨hl, fun u hu => ?_⟩
    obtain ⟨rfl, rfl⟩ := hl
    simp only [Ty.at?, Option.some.injEq] at hu
    subst hu
    have hn : cs.length = 1 := Rel.length _ _ _ _ hr
    exact hc 0 (by omega)
  | cons s p ih =>
    intro t x cs bs g o g1 o1 hr hh hc hb hv hl
    cases s with
    | fst =>
      cases t <;> simp only [Loc] at hl <;> try exact hl.elim
      obtain ⟨c1, c2, b1, b2, e1, e2, h1, h2⟩ := hr
      subst e1 e2
      exact ih _ _ _ _ _ _ _ _ h1 hh.left (fun j hj => hc j (by simp; omega)) (fun b hb' => hb b (by simp [hb'])) hv hl
    | snd =>
      cases t <;> simp only [Loc] at hl <;> try exact hl.elim
      obtain ⟨c1, c2, b1, b2, e1, e2, h1, h2⟩ := hr
      subst e1 e2
      have hh2 := hh.right
      have hlc := Rel.length _ _ _ _ h1
      rw [hlc] at hh2
      exact ih _ _ _ _ _ _ _ _ h2 hh2 (fun j hj => by rw [Nat.add_assoc]; exact hc _ (by simp; omega)) (fun b hb' => hb b (by simp [hb'])) hv hl
    | idx i =>
      cases t <;> simp only [Loc] at hl <;> try exact hl.elim
      · rename_i n t
        obtain ⟨hn, hL⟩ := hr
        obtain ⟨hi, hv⟩ := hv
        rw [← hn] at hi
        obtain ⟨cl, c0, cr, bl, b, br, e1, e2, e3, e4, e5, e6⟩ := hL.split (sz := t.size) (fun x c b h => Rel.length t x c b h) i hi
        rw [List.getD_eq_getElem?_getD, List.getElem?_eq_getElem hi, Option.getD_some] at hv
        subst e1 e2
        have hh2 := hh.left.right
        rw [e3] at hh2
        exact ih _ _ _ _ _ _ _ _ e4 hh2 (fun j hj => by rw [Nat.add_assoc]; exact hc _ (by simp; omega)) (fun b hb' => hb b (by simp [hb'])) hv hl
      · rename_i t
        obtain ⟨g2, n, cap, hcell, hl⟩ := hl
        obtain ⟨hi, hv⟩ := hv
        rcases hr with ⟨e, _⟩ | ⟨g3, cap2, cur, tag, bs', e1, e2, e3, e4, e5, e6, e7⟩
        · subst e; simp at hi
        · have hc2 := hh.cell 0 _ (by rw [e1]; rfl)
          have hs := hc 0 (by rw [e1]; simp)
          rw [Nat.add_zero] at hs
          rw [Nat.add_zero, hcell] at hc2
          injection hc2 with hc2
          injection hc2 with hc2 _ _
          injection hc2 with hc2
          injection hc2 with hc2 _ _
          subst hc2
          obtain ⟨cl, c, cr, bl, b, br, f1, f2, f3, f4, f5, f6⟩ := e7.split (sz := t.size) (fun x c b h => Rel.length t x c b h) i hi
          rw [List.getD_eq_getElem?_getD, List.getElem?_eq_getElem hi, Option.getD_some] at hv
          have hh2 : HoldsAt w g2 (i * t.size) c := ⟨cur, tag, cl, cr ++ cur.toList.drop (List.length x * t.size), e3, by rw [← List.append_assoc, ← f1]; exact (List.take_append_drop _ _).symm, f3⟩
          have hg : w2.heap[g2]? = w.heap[g2]? := hb g2 (by simp [e2])
          obtain ⟨k1, k2⟩ := ih _ _ _ _ _ _ _ _ f4 hh2 (fun j _ => World.cell?_of_block (w := w) hg) (fun b' hb' => hb b' (by simp [e2, f2, hb'])) hv hl
          exact ⟨⟨g2, n, cap, by rw [hs]; exact hcell, k1⟩, k2⟩
    | de =>
      cases t <;> simp only [Loc] at hl <;> try exact hl.elim
      rename_i t
      obtain ⟨g2, hcell, hl⟩ := hl
      obtain ⟨g3, cur, tag, bs', e1, e2, e3, e4⟩ := hr
      have hc2 := hh.cell 0 _ (by rw [e1]; rfl)
      have hs := hc 0 (by rw [e1]; simp)
      rw [Nat.add_zero] at hs
      rw [Nat.add_zero, hcell] at hc2
      injection hc2 with hc2
      injection hc2 with hc2
      injection hc2 with hc2
      injection hc2 with hc2 _ _
      subst hc2
      have hg : w2.heap[g2]? = w.heap[g2]? := hb g2 (by simp [e2])
      obtain ⟨k1, k2⟩ := ih _ _ _ _ _ _ _ _ e4 (.whole e3) (fun j _ => World.cell?_of_block (w := w) hg) (fun b' hb' => hb b' (by simp [e2, hb'])) hv hl
      exact ⟨⟨g2, by rw [hs]; exact hcell, k1⟩, k2⟩

/-- two elements of a row -/
theorem RelL.two_lt {α : Type} {R : α → List Value → List Nat → Prop} {sz : Nat} (hR : ∀ x c b, R x c b → c.length = sz) {xs : List α} {cs : List Value} {bs : List Nat} (hl : RelL R xs cs bs) {i j : Nat} (hij : i < j) (hj : j < xs.length) :
    ∃ ci bi cj bj, R (xs[i]'(by omega)) ci bi ∧ R xs[j] cj bj ∧ (∃ l r, cs = l ++ ci ++ r ∧ l.length = i * sz) ∧ (∃ l r, cs = l ++ cj ++ r ∧ l.length = j * sz) ∧ (bs.Nodup → ∀ b ∈ bi, b ∉ bj) ∧ (∀ b ∈ bi, b ∈ bs) ∧ ∀ b ∈ bj, b ∈ bs := by
  obtain ⟨cl, c, cr, bl, b, br, e1, e2, e3, e4, e5, e6⟩ := hl.split hR i (by omega)
  obtain ⟨cl2, c2, cr2, bl2, b2, br2, f1, f2, f3, f4, f5, f6⟩ := e6.split hR (j - i - 1) (by rw [List.length_drop]; omega)
  rw [List.getElem_drop] at f4
  have hidx : i + 1 + (j - i - 1) = j := by omega
  simp only [hidx] at f4
  refine ⟨c, b, c2, b2, e4, f4, ⟨cl, cr, e1, e3⟩, ⟨cl ++ c ++ cl2, cr2, by rw [e1, f1]; simp, ?_⟩, fun hn x hx hy => ?_, fun x hx => by rw [e2]; simp [hx], fun x hx => by rw [e2, f2]; simp [hx]⟩
  · rw [List.length_append, List.length_append, e3, hR _ _ _ e4, f3, ← Nat.succ_mul, ← Nat.add_mul]
    congr 1 <;> omega
  · rw [e2, f2] at hn
    simp only [List.nodup_append, List.mem_append] at hn
    exact hn.2.2 x (.inr hx) x (.inl (.inr hy)) rfl
theorem RelL.two {α : Type} {R : α → List Value → List Nat → Prop} {sz : Nat} (hR : ∀ x c b, R x c b → c.length = sz) {xs : List α} {cs : List Value} {bs : List Nat} (hl : RelL R xs cs bs) {i j : Nat} (hij : i ≠ j) (hi : i < xs.length) (hj : j < xs.length) :
    ∃ ci bi cj bj, R xs[i] ci bi ∧ R xs[j] cj bj ∧ (∃ l r, cs = l ++ ci ++ r ∧ l.length = i * sz) ∧ (∃ l r, cs = l ++ cj ++ r ∧ l.length = j * sz) ∧ (bs.Nodup → ∀ b ∈ bi, b ∉ bj) ∧ (∀ b ∈ bi, b ∈ bs) ∧ ∀ b ∈ bj, b ∈ bs := by
  rcases Nat.lt_or_gt_of_ne hij with h | h
  · exact hl.two_lt hR h hj
  · obtain ⟨ci, bi, cj, bj, k1, k2, k3, k4, k5, k6, k7⟩ := hl.two_lt hR h hi
    exact ⟨cj, bj, ci, bi, k2, k1, k4, k3, fun hn b hb hb' => k5 hn b hb' hb, k7, k6⟩

/-- a place lies in another block, or within the cells of the whole -/
theorem Loc.range : ∀ (q : List Step) (t : Ty) (x : t.den) (cs : List Value) (bs : List Nat) (g o g' o' : Nat) (u : DVal), Rel F w t x cs bs → HoldsAt w g o cs → Valid q t x → Loc w q t g o g' o' → get q t x = some u →
    g' ∈ bs ∨ (g' = g ∧ o ≤ o' ∧ o' + u.t.size ≤ o + cs.length) := by
  intro q
  induction q with
  | nil =>
    intro t x cs bs g o g' o' u hr hh _ hl hg
    simp only [get, Option.some.injEq] at hg
    subst hg
    obtain ⟨rfl, rfl⟩ := hl
    exact .inr ⟨rfl, Nat.le_refl _, by rw [Rel.length _ _ _ _ hr]; exact Nat.le_refl _⟩
  | cons s q ih =>
    intro t x cs bs g o g' o' u hr hh hv hl hg
    cases s with
    | fst =>
      cases t <;> simp only [Loc] at hl <;> try exact hl.elim
      obtain ⟨c1, c2, b1, b2, e1, e2, h1, h2⟩ := hr
      subst e1 e2
      rcases ih _ _ _ _ _ _ _ _ _ h1 hh.left hv hl hg with h | ⟨h, k1, k2⟩
      · exact .inl (by simp [h])
      · exact .inr ⟨h, k1, by simp; omega⟩
    | snd =>
      cases t <;> simp only [Loc] at hl <;> try exact hl.elim
      obtain ⟨c1, c2, b1, b2, e1, e2, h1, h2⟩ := hr
      subst e1 e2
      have hh2 := hh.right
      have hlc := Rel.length _ _ _ _ h1
      rw [hlc] at hh2
      rcases ih _ _ _ _ _ _ _ _ _ h2 hh2 hv hl hg with h | ⟨h, k1, k2⟩
      · exact .inl (by simp [h])
      · exact .inr ⟨h, by omega, by simp; omega⟩
    | idx i =>
      cases t <;> simp only [Loc] at hl <;> try exact hl.elim
      · rename_i n t
        obtain ⟨hn, hL⟩ := hr
        obtain ⟨hi, hv⟩ := hv
        rw [← hn] at hi
        obtain ⟨cl, c0, cr, bl, b, br, e1, e2, e3, e4, e5, e6⟩ := hL.split (sz := t.size) (fun x c b h => Rel.length t x c b h) i hi
        simp only [get] at hg
        rw [List.getD_eq_getElem?_getD, List.getElem?_eq_getElem hi, Option.getD_some] at hv hg
        subst e1 e2
        have hh2 := hh.left.right
        rw [e3] at hh2
        rcases ih _ _ _ _ _ _ _ _ _ e4 hh2 hv hl hg with h | ⟨h, k1, k2⟩
        · exact .inl (by simp [h])
        · exact .inr ⟨h, by omega, by simp; omega⟩
      · have hm := Loc.mem (.idx i :: q) _ _ _ _ _ _ _ _ hr hh hv hl
        rename_i t
        obtain ⟨g2, n, cap, hcell, hl⟩ := hl
        obtain ⟨hi, hv⟩ := hv
        rcases hr with ⟨e, _⟩ | ⟨g3, cap2, cur, tag, bs', e1, e2, e3, e4, e5, e6, e7⟩
        · subst e; simp at hi
        · have hc2 := hh.cell 0 _ (by rw [e1]; rfl)
          rw [Nat.add_zero, hcell] at hc2
          injection hc2 with hc2
          injection hc2 with hc2 _ _
          injection hc2 with hc2
          injection hc2 with hc2 _ _
          subst hc2
          obtain ⟨cl, c, cr, bl, b, br, f1, f2, f3, f4, f5, f6⟩ := e7.split (sz := t.size) (fun x c b h => Rel.length t x c b h) i hi
          simp only [get] at hg
          rw [List.getD_eq_getElem?_getD, List.getElem?_eq_getElem hi, Option.getD_some] at hv hg
          have hh2 : HoldsAt w g2 (i * t.size) c := ⟨cur, tag, cl, cr ++ cur.toList.drop (List.length x * t.size), e3, by rw [← List.append_assoc, ← f1]; exact (List.take_append_drop _ _).symm, f3⟩
          rcases ih _ _ _ _ _ _ _ _ _ f4 hh2 hv hl hg with h | ⟨h, _⟩
          · exact .inl (by simp [e2, f2, h])
          · exact .inl (by simp [e2, h])
    | de =>
      cases t <;> simp only [Loc] at hl <;> try exact hl.elim
      rename_i t
      obtain ⟨g2, hcell, hl⟩ := hl
      obtain ⟨g3, cur, tag, bs', e1, e2, e3, e4⟩ := hr
      have hc2 := hh.cell 0 _ (by rw [e1]; rfl)
      rw [Nat.add_zero, hcell] at hc2
      injection hc2 with hc2
      injection hc2 with hc2
      injection hc2 with hc2
      injection hc2 with hc2 _ _
      subst hc2
      rcases ih _ _ _ _ _ _ _ _ _ e4 (.whole e3) hv hl hg with h | ⟨h, _⟩
      · exact .inl (by simp [e2, h])
      · exact .inl (by simp [e2, h])

/-- pure data written into a place move no other place -/
theorem Loc.upd : ∀ (q : List Step) (t : Ty) (x : t.den) (cs : List Value) (bs : List Nat) (g o g' o' : Nat) (u : DVal) (c : List Value), Rel F w t x cs bs → HoldsAt w g o cs → (g :: bs).Nodup →
    Valid q t x → Loc w q t g o g' o' → get q t x = some u → u.t.pure = true → c.length = u.t.size → Upd w w2 g' o' c →
    ∀ (p : List Step) (g1 o1 : Nat), Valid p t x → Loc w p t g o g1 o1 → Loc w2 p t g o g1 o1 ∧ ∀ v, Ty.at? p t = some (.own v) → w2.cell? ⟨g1, o1, none⟩ = w.cell? ⟨g1, o1, none⟩ := by
  intro q
  induction q with
  | nil =>
    intro t x cs bs g o g' o' u c hr hh hnd _ hl hg hp hlen hu p g1 o1 hv1 hl1
    simp only [get, Option.some.injEq] at hg
    subst hg
    refine ⟨Loc.pure _ _ _ _ _ _ hp hl1, fun v hv => ?_⟩
    have := Ty.at_pure _ _ _ hp hv
    cases this
  | cons s q ih =>
    intro t x cs bs g o g' o' u c hr hh hnd hv hl hg hp hlen hu p g1 o1 hv1 hl1
    -- what lies beside the part that is written
    have beside : ∀ {ta tb : Ty} {xa : ta.den} {xb : tb.den} {ca cb : List Value} {ba bb : List Nat} {oa ob : Nat}, Rel F w ta xa ca ba → HoldsAt w g oa ca → Valid q ta xa → Loc w q ta g oa g' o' → get q ta xa = some u →
        Rel F w tb xb cb bb → HoldsAt w g ob cb → g ∉ ba → g ∉ bb → (∀ b ∈ ba, b ∉ bb) → (oa + ca.length ≤ ob ∨ ob + cb.length ≤ oa) →
        ∀ (p : List Step) (g1 o1 : Nat), Valid p tb xb → Loc w p tb g ob g1 o1 → Loc w2 p tb g ob g1 o1 ∧ ∀ v, Ty.at? p tb = some (.own v) → w2.cell? ⟨g1, o1, none⟩ = w.cell? ⟨g1, o1, none⟩ := by
      intro ta tb xa xb ca cb ba bb oa ob ra ha va la ga rb hb na nb hd hoff p g1 o1 vp lp
      have hrange := Loc.range q _ _ _ _ _ _ _ _ _ ra ha va la ga
      obtain ⟨cs', bs', k1, k2, _⟩ := get_spec q _ _ _ _ _ _ _ _ _ ra ha va la ga
      have hfit := k2.fits (c := c) (by rw [hlen, Rel.length _ _ _ _ k1])
      refine Loc.stay p _ _ _ _ _ _ _ _ rb hb (fun j hj => hu.cell g _ ?_ hfit) (fun b hb' => hu.other b fun e => ?_) vp lp
      · rcases hrange with h | ⟨h, k3, k4⟩
        · exact .inl fun e => na (e ▸ h)
        · right
          rw [hlen]
          omega
      · subst e
        rcases hrange with h | ⟨h, _⟩
        · exact hd _ h hb'
        · exact nb (h ▸ hb')
    cases s with
    | fst =>
      cases t <;> simp only [Loc] at hl <;> try exact hl.elim
      obtain ⟨c1, c2, b1, b2, e1, e2, h1, h2⟩ := hr
      subst e1 e2
      have hnd1 : (g :: b1).Nodup := hnd.sublist (by simp)
      have hlc := Rel.length _ _ _ _ h1
      simp only [List.nodup_cons, List.mem_append, List.nodup_append, not_or] at hnd
      cases p with
      | nil => exact ⟨hl1, fun v h => by simp [Ty.at?] at h⟩
      | cons s' p =>
        cases s' <;> simp only [Loc] at hl1 <;> try exact hl1.elim
        · exact ih _ _ _ _ _ _ _ _ _ _ h1 hh.left hnd1 hv hl hg hp hlen hu p g1 o1 hv1 hl1
        · have hh2 := hh.right
          rw [hlc] at hh2
          exact beside h1 hh.left hv hl hg h2 hh2 hnd.1.1 hnd.1.2 (fun b hb hb' => hnd.2.2.2 b hb b hb' rfl) (.inl (by omega)) p g1 o1 hv1 hl1
    | snd =>
      cases t <;> simp only [Loc] at hl <;> try exact hl.elim
      obtain ⟨c1, c2, b1, b2, e1, e2, h1, h2⟩ := hr
      subst e1 e2
      have hnd1 : (g :: b2).Nodup := hnd.sublist (by simp)
      have hlc := Rel.length _ _ _ _ h1
      have hh2 := hh.right
      rw [hlc] at hh2
      simp only [List.nodup_cons, List.mem_append, List.nodup_append, not_or] at hnd
      cases p with
      | nil => exact ⟨hl1, fun v h => by simp [Ty.at?] at h⟩
      | cons s' p =>
        cases s' <;> simp only [Loc] at hl1 <;> try exact hl1.elim
        · exact beside h2 hh2 hv hl hg h1 hh.left hnd.1.2 hnd.1.1 (fun b hb hb' => hnd.2.2.2 b hb' b hb rfl) (.inr (by omega)) p g1 o1 hv1 hl1
        · exact ih _ _ _ _ _ _ _ _ _ _ h2 hh2 hnd1 hv hl hg hp hlen hu p g1 o1 hv1 hl1
    | idx i =>
      cases t <;> simp only [Loc] at hl <;> try exact hl.elim
      · rename_i n t
        obtain ⟨hn, hL⟩ := hr
        obtain ⟨hi, hv⟩ := hv
        rw [← hn] at hi
        simp only [get] at hg
        rw [List.getD_eq_getElem?_getD, List.getElem?_eq_getElem hi, Option.getD_some] at hv hg
        cases p with
        | nil => exact ⟨hl1, fun v h => by simp [Ty.at?] at h⟩
        | cons s' p =>
          cases s' <;> simp only [Loc] at hl1 <;> try exact hl1.elim
          rename_i j
          obtain ⟨hj, hv1⟩ := hv1
          rw [← hn] at hj
          rw [List.getD_eq_getElem?_getD, List.getElem?_eq_getElem hj, Option.getD_some] at hv1
          by_cases e : i = j
          · subst e
            obtain ⟨cl, c0, cr, bl, b, br, e1, e2, e3, e4, e5, e6⟩ := hL.split (sz := t.size) (fun x c b h => Rel.length t x c b h) i hi
            subst e1 e2
            have hh2 := hh.left.right
            rw [e3] at hh2
            have hnd1 : (g :: b).Nodup := hnd.sublist (by simp)
            exact ih _ _ _ _ _ _ _ _ _ _ e4 hh2 hnd1 hv hl hg hp hlen hu p g1 o1 hv1 hl1
          · obtain ⟨ci, bi, cj, bj, k1, k2, ⟨li, ri, k3, k4⟩, ⟨lj, rj, k5, k6⟩, k7, k8, k9⟩ := hL.two (sz := t.size) (fun x c b h => Rel.length t x c b h) e hi hj
            have hhi : HoldsAt w g (o + i * t.size) ci := by
              have h' := hh
              rw [k3] at h'
              have := h'.left.right
              rwa [k4] at this
            have hhj : HoldsAt w g (o + j * t.size) cj := by
              have h' := hh
              rw [k5] at h'
              have := h'.left.right
              rwa [k6] at this
            have hnd' := List.nodup_cons.1 hnd
            refine beside k1 hhi hv hl hg k2 hhj (fun h => hnd'.1 (k8 _ h)) (fun h => hnd'.1 (k9 _ h)) (k7 hnd'.2) ?_ p g1 o1 hv1 hl1
            rw [Rel.length _ _ _ _ k1, Rel.length _ _ _ _ k2]
            rcases Nat.lt_or_gt_of_ne e with h | h
            · left
              have := Nat.mul_le_mul_right t.size (show i + 1 ≤ j from h)
              rw [Nat.succ_mul] at this
              omega
            · right
              have := Nat.mul_le_mul_right t.size (show j + 1 ≤ i from h)
              rw [Nat.succ_mul] at this
              omega
      · have hmq := Loc.mem (.idx i :: q) _ _ _ _ _ _ _ _ hr hh hv hl
        rename_i t
        obtain ⟨g2, n, cap, hcell, hl⟩ := hl
        obtain ⟨hi, hv⟩ := hv
        rcases hr with ⟨e, _⟩ | ⟨g3, cap2, cur, tag, bs', e1, e2, e3, e4, e5, e6, e7⟩
        · subst e; simp at hi
        · have hc2 := hh.cell 0 _ (by rw [e1]; rfl)
          rw [Nat.add_zero, hcell] at hc2
          injection hc2 with hc2
          injection hc2 with hc2 _ _
          injection hc2 with hc2
          injection hc2 with hc2 _ _
          subst hc2 e2
          simp only [get] at hg
          rw [List.getD_eq_getElem?_getD, List.getElem?_eq_getElem hi, Option.getD_some] at hv hg
          have hnd1 : (g2 :: bs').Nodup := (List.nodup_cons.1 hnd).2
          have hcut : cur.toList = List.take (List.length x * t.size) cur.toList ++ List.drop (List.length x * t.size) cur.toList := (List.take_append_drop _ _).symm
          have hrow : HoldsAt w g2 0 (List.take (List.length x * t.size) cur.toList) := ⟨cur, tag, [], List.drop (List.length x * t.size) cur.toList, e3, by simp, rfl⟩
          obtain ⟨cl, c0, cr, bl, b, br, f1, f2, f3, f4, f5, f6⟩ := e7.split (sz := t.size) (fun x c b h => Rel.length t x c b h) i hi
          have hh2 : HoldsAt w g2 (i * t.size) c0 := by
            have h' := hrow
            rw [f1] at h'
            have := h'.left.right
            rwa [f3, Nat.zero_add] at this
          have hm := Loc.mem q _ _ _ _ _ _ _ _ f4 hh2 hv hl
          have hgne : g' ≠ g := fun e => by
            subst e
            refine (List.nodup_cons.1 hnd).1 ?_
            simp only [List.mem_cons] at hm ⊢
            rcases hm with h | h
            · exact .inl h
            · exact .inr (by rw [f2]; simp [h])
          have hcellg : ∀ j, w2.cell? ⟨g, j, none⟩ = w.cell? ⟨g, j, none⟩ := fun j => World.cell?_of_block (w := w) (hu.other g fun e => hgne e.symm)
          cases p with
          | nil =>
            obtain ⟨rfl, rfl⟩ := hl1
            exact ⟨⟨rfl, rfl⟩, fun v _ => hcellg _⟩
          | cons s' p =>
            cases s' <;> simp only [Loc] at hl1 <;> try exact hl1.elim
            rename_i j
            obtain ⟨g4, n4, cap4, hcell4, hl1⟩ := hl1
            rw [hcell] at hcell4
            injection hcell4 with hcell4
            injection hcell4 with hcell4 _ _
            injection hcell4 with hcell4
            injection hcell4 with hcell4 _ _
            subst hcell4
            obtain ⟨hj, hv1⟩ := hv1
            rw [List.getD_eq_getElem?_getD, List.getElem?_eq_getElem hj, Option.getD_some] at hv1
            have fin : Loc w2 p t g2 (j * t.size) g1 o1 ∧ (∀ v, Ty.at? p t = some (.own v) → w2.cell? ⟨g1, o1, none⟩ = w.cell? ⟨g1, o1, none⟩) := by
              by_cases e : i = j
              · subst e
                exact ih _ _ _ _ _ _ _ _ _ _ f4 hh2 (hnd1.sublist (by rw [f2]; simp)) hv hl hg hp hlen hu p g1 o1 hv1 hl1
              · have := @ih
                obtain ⟨ci, bi, cj, bj, k1, k2, ⟨li, ri, k3, k4⟩, ⟨lj, rj, k5, k6⟩, k7, k8, k9⟩ := e7.two (sz := t.size) (fun x c b h => Rel.length t x c b h) e hi hj
                have hhi : HoldsAt w g2 (i * t.size) ci := by
                  have h' := hrow
                  rw [k3] at h'
                  have := h'.left.right
                  rwa [k4, Nat.zero_add] at this
                have hhj : HoldsAt w g2 (j * t.size) cj := by
                  have h' := hrow
                  rw [k5] at h'
                  have := h'.left.right
                  rwa [k6, Nat.zero_add] at this
                have hnd' := List.nodup_cons.1 hnd1
                have hrange := Loc.range q _ _ _ _ _ _ _ _ _ k1 hhi hv hl hg
                obtain ⟨cs', bs2, m1, m2, _⟩ := get_spec q _ _ _ _ _ _ _ _ _ k1 hhi hv hl hg
                have hfit := m2.fits (c := c) (by rw [hlen, Rel.length _ _ _ _ m1])
                have hli := Rel.length _ _ _ _ k1
                have hlj := Rel.length _ _ _ _ k2
                refine Loc.stay p _ _ _ _ _ _ _ _ k2 hhj (fun z hz => hu.cell g2 _ ?_ hfit) (fun b hb' => hu.other b fun e' => ?_) hv1 hl1
                · rcases hrange with h | ⟨h, m3, m4⟩
                  · exact .inl fun e' => hnd'.1 (k8 _ (e' ▸ h))
                  · right
                    rw [hlen]
                    rcases Nat.lt_or_gt_of_ne e with h' | h'
                    · have := Nat.mul_le_mul_right t.size (show i + 1 ≤ j from h')
                      rw [Nat.succ_mul] at this
                      omega
                    · have := Nat.mul_le_mul_right t.size (show j + 1 ≤ i from h')
                      rw [Nat.succ_mul] at this
                      omega
                · subst e'
                  rcases hrange with h | ⟨h, _⟩
                  · exact k7 hnd'.2 _ h hb'
                  · exact hnd'.1 (h ▸ k9 _ hb')
            exact ⟨⟨g2, n, cap, by rw [hcellg]; exact hcell, fin.1⟩, fin.2⟩
    | de =>
      cases t <;> simp only [Loc] at hl <;> try exact hl.elim
      rename_i t
      obtain ⟨g2, hcell, hl⟩ := hl
      obtain ⟨g3, cur, tag, bs', e1, e2, e3, e4⟩ := hr
      have hc2 := hh.cell 0 _ (by rw [e1]; rfl)
      rw [Nat.add_zero, hcell] at hc2
      injection hc2 with hc2
      injection hc2 with hc2
      injection hc2 with hc2
      injection hc2 with hc2 _ _
      subst hc2 e2
      have hnd1 : (g2 :: bs').Nodup := (List.nodup_cons.1 hnd).2
      have hm := Loc.mem q _ _ _ _ _ _ _ _ e4 (.whole e3) hv hl
      have hgne : g' ≠ g := fun e => by
        subst e
        exact (List.nodup_cons.1 hnd).1 hm
      have hcellg : ∀ j, w2.cell? ⟨g, j, none⟩ = w.cell? ⟨g, j, none⟩ := fun j => World.cell?_of_block (w := w) (hu.other g fun e => hgne e.symm)
      cases p with
      | nil => exact ⟨hl1, fun v h => by simp [Ty.at?] at h⟩
      | cons s' p =>
        cases s' <;> simp only [Loc] at hl1 <;> try exact hl1.elim
        obtain ⟨g4, hcell4, hl1⟩ := hl1
        rw [hcell] at hcell4
        injection hcell4 with hcell4
        injection hcell4 with hcell4
        injection hcell4 with hcell4
        injection hcell4 with hcell4 _ _
        subst hcell4
        have fin := ih _ _ _ _ _ _ _ _ _ _ e4 (.whole e3) hnd1 hv hl hg hp hlen hu p g1 o1 hv1 hl1
        exact ⟨⟨g2, by rw [hcellg]; exact hcell, fin.1⟩, fin.2⟩
theorem set_ty : ∀ (p : List Step) (t : Ty) (x : t.den) (u v : DVal) (y : t.den), get p t x = some u → set p t x v = some y → v.t = u.t := by
  intro p
  induction p with
  | nil =>
    intro t x u v y h1 h2
    simp only [get, Option.some.injEq] at h1
    subst h1
    simp only [set] at h2
    split at h2
    · assumption
    · cases h2
  | cons s p ih =>
    intro t x u v y h1 h2
    cases s <;> cases t <;> simp only [get, set, Option.map_eq_some_iff] at h1 h2 <;> first
      | (obtain ⟨y', h2, _⟩ := h2; exact ih _ _ _ _ _ h1 h2)
      | exact ih _ _ _ _ _ h1 h2
      | cases h1
theorem getD_set {α : Type} (l : List α) (i j : Nat) (y d : α) : List.getD (l.set i y) j d = if i = j ∧ i < l.length then y else List.getD l j d := by
  rw [List.getD_eq_getElem?_getD, List.getD_eq_getElem?_getD, List.getElem?_set]
  by_cases h : i = j
  · subst h
    by_cases h2 : i < l.length
    · simp [h2]
    · rw [if_pos rfl, if_neg h2, if_neg (fun h => h2 h.2), List.getElem?_eq_none (by omega)]
  · rw [if_neg h, if_neg (fun k => h k.1)]
/-- pure data written into a place leave every way right -/
theorem Valid.set : ∀ (q : List Step) (t : Ty) (x x' : t.den) (u v : DVal), get q t x = some u → u.t.pure = true → set q t x v = some x' → ∀ p, Valid p t x → Valid p t x' := by
  intro q
  induction q with
  | nil =>
    intro t x x' u v hg hp _ p hv
    simp only [get, Option.some.injEq] at hg
    subst hg
    exact Valid.pure _ _ _ _ hp hv
  | cons s q ih =>
    intro t x x' u v hg hp hs p hv
    cases p with
    | nil => trivial
    | cons s' p =>
      cases s <;> cases t <;> simp only [get, Go.D.set, Option.map_eq_some_iff] at hg hs <;> try (cases hg; done)
      · obtain ⟨y, hs, rfl⟩ := hs
        cases s' <;> simp only [Valid] at hv ⊢
        · exact ih _ _ _ _ _ hg hp hs p hv
        · exact hv
      · obtain ⟨y, hs, rfl⟩ := hs
        cases s' <;> simp only [Valid] at hv ⊢
        · exact hv
        · exact ih _ _ _ _ _ hg hp hs p hv
      · obtain ⟨y, hs, rfl⟩ := hs
        cases s' <;> simp only [Valid] at hv ⊢
        refine ⟨hv.1, ?_⟩
        rw [getD_set]
        split
        · rename_i h
          obtain ⟨rfl, _⟩ := h
          exact ih _ _ _ _ _ hg hp hs p hv.2
        · exact hv.2
      · obtain ⟨y, hs, rfl⟩ := hs
        cases s' <;> simp only [Valid] at hv ⊢
        refine ⟨by rw [List.length_set]; exact hv.1, ?_⟩
        rw [getD_set]
        split
        · rename_i h
          obtain ⟨rfl, _⟩ := h
          exact ih _ _ _ _ _ hg hp hs p hv.2
        · exact hv.2
      · cases s' <;> simp only [Valid] at hv ⊢
        exact ih _ _ _ _ _ hg hp hs p hv
end Go.D
