/- The abstract machine D, part A: types, data, and how data lie in memory. -/
import Derived.LoopN
import Derived.Orders
import Derived.Below
import Derived.Laws.AppendOwn
import Derived.Laws.OwnMore
import Derived.Laws.MakeOwn
import Derived.Laws.Rows
import Derived.Laws.Cells
namespace Go.D

inductive Ty where
  | int (k : IntKind) | bool | str | unit
  | pair (a b : Ty)
  | arr (n : Nat) (t : Ty)
  | sl (t : Ty)
  | own (t : Ty)
  | box (t : Ty)
  /-- a pointer to what is only read -/
  | pt (t : Ty)
  deriving DecidableEq, Inhabited

@[reducible] def Ty.den : Ty → Type
  | .int _ => Int
  | .bool => Bool
  | .str => ByteArray
  | .unit => Unit
  | .pair a b => a.den × b.den
  | .arr _ t => List t.den
  | .sl t => List t.den
  | .own t => List t.den
  | .box t => t.den
  | .pt t => t.den

def Ty.size : Ty → Nat
  | .int _ | .bool | .str | .sl _ | .own _ | .box _ | .pt _ => 1
  | .unit => 0
  | .pair a b => a.size + b.size
  | .arr n t => n * t.size

def Ty.isAgg : Ty → Bool
  | .unit | .pair _ _ | .arr _ _ => true
  | _ => false

/-- no part of it is owned memory -/
def Ty.pure : Ty → Bool
  | .int _ | .bool | .str | .unit => true
  | .pair a b => a.pure && b.pure
  | .arr _ t => t.pure
  | .sl t => t.pure
  | .own _ | .box _ => false
  | .pt t => t.pure

def Ty.dflt : (t : Ty) → t.den
  | .int _ => (0 : Int)
  | .bool => false
  | .str => ByteArray.empty
  | .unit => ()
  | .pair a b => (a.dflt, b.dflt)
  | .arr n t => List.replicate n t.dflt
  | .sl _ => []
  | .own _ => []
  | .box t => t.dflt
  | .pt t => t.dflt

/-! ### Rows of related things -/
/-- the elements 'xs' lie one behind another as the cells 'cs', and own the blocks 'bs' -/
inductive RelL {α : Type} (R : α → List Value → List Nat → Prop) : List α → List Value → List Nat → Prop where
  | nil : RelL R [] [] []
  | cons {x : α} {xs : List α} {c cs : List Value} {b bs : List Nat} (h : R x c b) (t : RelL R xs cs bs) : RelL R (x :: xs) (c ++ cs) (b ++ bs)

def Rel (F : Nat → Nat → Prop) (w : World) : (t : Ty) → t.den → List Value → List Nat → Prop
  | .int k, n, cs, bs => cs = [.int k n] ∧ bs = []
  | .bool, b, cs, bs => cs = [.bool b] ∧ bs = []
  | .str, s, cs, bs => cs = [.string s] ∧ bs = []
  | .unit, _, cs, bs => cs = [] ∧ bs = []
  | .pair a b, x, cs, bs => ∃ c1 c2 b1 b2, cs = c1 ++ c2 ∧ bs = b1 ++ b2 ∧ Rel F w a x.1 c1 b1 ∧ Rel F w b x.2 c2 b2
  | .arr n t, xs, cs, bs => List.length xs = n ∧ RelL (Rel F w t) xs cs bs
  | .sl t, xs, cs, bs => bs = [] ∧ ∃ a cap ms, cs = [.slice a (List.length xs) cap] ∧ List.length xs ≤ cap ∧ RelL (Rel F w t) xs ms [] ∧
      (0 < List.length xs → ∃ b o, a = some ⟨b, o, none⟩ ∧ ∀ (j : Nat) (v : Value), ms[j]? = some v → F b (o + j) ∧ w.cell? ⟨b, o + j, none⟩ = some v)
  | .own t, xs, cs, bs => (xs = [] ∧ cs = [.slice none 0 0] ∧ bs = []) ∨
      ∃ g cap cur tag bs', cs = [.slice (some ⟨g, 0, none⟩) (List.length xs) cap] ∧ bs = g :: bs' ∧ w.heap[g]? = some (.cells cur tag (0, 0)) ∧
        List.length xs ≤ cap ∧ cap ≤ maxLen ∧ cur.size = cap * t.size ∧ RelL (Rel F w t) xs (cur.toList.take (List.length xs * t.size)) bs'
  | .box t, x, cs, bs => ∃ g cur tag bs', cs = [.pointer (some ⟨g, 0, none⟩)] ∧ bs = g :: bs' ∧ w.heap[g]? = some (.cells cur tag (0, 0)) ∧
      Rel F w t x cur.toList bs'
  | .pt t, x, cs, bs => bs = [] ∧ ∃ b o ms, cs = [.pointer (some ⟨b, o, none⟩)] ∧ Rel F w t x ms [] ∧ ∀ (j : Nat) (v : Value), ms[j]? = some v → F b (o + j) ∧ w.cell? ⟨b, o + j, none⟩ = some v

section
variable {α : Type} {R R' : α → List Value → List Nat → Prop}
theorem RelL.mono (h : ∀ x c b, R x c b → R' x c b) {xs : List α} {cs : List Value} {bs : List Nat} (hl : RelL R xs cs bs) : RelL R' xs cs bs := by
  induction hl with
  | nil => exact .nil
  | cons hx _ ih => exact .cons (h _ _ _ hx) ih
theorem RelL.mono_mem {xs : List α} {cs : List Value} {bs : List Nat} (hl : RelL R xs cs bs) (h : ∀ x c b, (∀ i ∈ b, i ∈ bs) → R x c b → R' x c b) : RelL R' xs cs bs := by
  induction hl with
  | nil => exact .nil
  | cons hx _ ih =>
    exact .cons (h _ _ _ (fun i hi => List.mem_append_left _ hi) hx) (ih fun x c b hb hr => h x c b (fun i hi => List.mem_append_right _ (hb i hi)) hr)
theorem RelL.length {sz : Nat} (h : ∀ x c b, R x c b → c.length = sz) {xs : List α} {cs : List Value} {bs : List Nat} (hl : RelL R xs cs bs) : cs.length = xs.length * sz := by
  induction hl with
  | nil => simp
  | cons hx _ ih => simp [ih, h _ _ _ hx, Nat.add_mul, Nat.add_comm]
theorem RelL.append {xs ys : List α} {cs ds : List Value} {bs es : List Nat} (hl : RelL R xs cs bs) (hr : RelL R ys ds es) : RelL R (xs ++ ys) (cs ++ ds) (bs ++ es) := by
  induction hl with
  | nil => simpa
  | cons hx _ ih => simpa using RelL.cons hx ih
theorem RelL.uncons {x : α} {xs : List α} {cs : List Value} {bs : List Nat} (hl : RelL R (x :: xs) cs bs) : ∃ c cs' b bs', cs = c ++ cs' ∧ bs = b ++ bs' ∧ R x c b ∧ RelL R xs cs' bs' := by
  cases hl with
  | cons h t => exact ⟨_, _, _, _, rfl, rfl, h, t⟩
theorem RelL.unnil {cs : List Value} {bs : List Nat} (hl : RelL R [] cs bs) : cs = [] ∧ bs = [] := by
  cases hl; exact ⟨rfl, rfl⟩
theorem RelL.one {x : α} {c : List Value} {b : List Nat} (h : R x c b) : RelL R [x] c b := by simpa using RelL.cons h RelL.nil
/-- the cells of one element -/
theorem RelL.split {sz : Nat} (h : ∀ x c b, R x c b → c.length = sz) {xs : List α} {cs : List Value} {bs : List Nat} (hl : RelL R xs cs bs) (i : Nat) (hi : i < xs.length) :
    ∃ cl c cr bl b br, cs = cl ++ c ++ cr ∧ bs = bl ++ b ++ br ∧ cl.length = i * sz ∧ R xs[i] c b ∧ RelL R (xs.take i) cl bl ∧ RelL R (xs.drop (i + 1)) cr br := by
  induction hl generalizing i with
  | nil => simp at hi
  | @cons x xs c cs b bs hx ht ih =>
    cases i with
    | zero => exact ⟨[], c, cs, [], b, bs, by simp, by simp, by simp, by simpa using hx, by simpa using RelL.nil, by simpa using ht⟩
    | succ i =>
      obtain ⟨cl, c', cr, bl, b', br, e1, e2, e3, e4, e5, e6⟩ := ih i (by simpa using hi)
      refine ⟨c ++ cl, c', cr, b ++ bl, b', br, by simp [e1], by simp [e2], ?_, by simpa using e4, by simpa using RelL.cons hx e5, by simpa using e6⟩
      simp [e3, h _ _ _ hx, Nat.add_mul, Nat.add_comm]
theorem RelL.put {xs : List α} {i : Nat} (hi : i < xs.length) {x' : α} {cl c' cr : List Value} {bl b' br : List Nat} (h1 : RelL R (xs.take i) cl bl) (h2 : R x' c' b') (h3 : RelL R (xs.drop (i + 1)) cr br) :
    RelL R (xs.set i x') (cl ++ c' ++ cr) (bl ++ b' ++ br) := by
  have e : xs.set i x' = xs.take i ++ ([x'] ++ xs.drop (i + 1)) := by
    rw [List.set_eq_take_append_cons_drop, if_pos hi]; simp
  rw [e]
  simpa using h1.append ((RelL.one h2).append h3)
theorem RelL.take {sz : Nat} (h : ∀ x c b, R x c b → c.length = sz) {xs : List α} {cs : List Value} {bs : List Nat} (hl : RelL R xs cs bs) (i : Nat) :
    ∃ b1 b2, bs = b1 ++ b2 ∧ RelL R (xs.take i) (cs.take (i * sz)) b1 ∧ RelL R (xs.drop i) (cs.drop (i * sz)) b2 := by
  induction hl generalizing i with
  | nil => exact ⟨[], [], by simp, by simpa using RelL.nil, by simpa using RelL.nil⟩
  | @cons x xs c cs b bs hx ht ih =>
    cases i with
    | zero => exact ⟨[], b ++ bs, by simp, by simpa using RelL.nil, by simpa using RelL.cons hx ht⟩
    | succ i =>
      obtain ⟨b1, b2, e, e1, e2⟩ := ih i
      have hc := h _ _ _ hx
      refine ⟨b ++ b1, b2, by simp [e], ?_, ?_⟩
      · have : (c ++ cs).take ((i + 1) * sz) = c ++ cs.take (i * sz) := by
          rw [Nat.add_mul, Nat.one_mul, Nat.add_comm, ← hc, List.take_length_add_append]
        rw [this]; simpa using RelL.cons hx e1
      · have : (c ++ cs).drop ((i + 1) * sz) = cs.drop (i * sz) := by
          rw [Nat.add_mul, Nat.one_mul, Nat.add_comm, ← hc, List.drop_length_add_append]
        rw [this]; simpa using e2
end

variable {F : Nat → Nat → Prop} {w w' : World}

theorem Rel.length : ∀ (t : Ty) (x : t.den) (cs : List Value) (bs : List Nat), Rel F w t x cs bs → cs.length = t.size := by
  intro t
  induction t with
  | int => intro x cs bs h; simp [h.1, Ty.size]
  | bool => intro x cs bs h; simp [h.1, Ty.size]
  | str => intro x cs bs h; simp [h.1, Ty.size]
  | unit => intro x cs bs h; simp [h.1, Ty.size]
  | pair a b iha ihb =>
    rintro x cs bs ⟨c1, c2, b1, b2, e, _, h1, h2⟩
    simp [e, Ty.size, iha _ _ _ h1, ihb _ _ _ h2]
  | arr n t ih =>
    rintro xs cs bs ⟨hn, hl⟩
    rw [hl.length (sz := t.size) (fun x c b h => ih x c b h), hn]; rfl
  | sl t _ => rintro xs cs bs ⟨_, _, _, _, h, _⟩; simp [h, Ty.size]
  | own t _ => rintro xs cs bs (⟨_, h, _⟩ | ⟨_, _, _, _, _, h, _⟩) <;> simp [h, Ty.size]
  | box t _ => rintro x cs bs ⟨_, _, _, _, h, _⟩; simp [h, Ty.size]
  | pt t _ => rintro x cs bs ⟨_, _, _, _, h, _⟩; simp [h, Ty.size]

theorem Rel.lengthL {t : Ty} {xs : List t.den} {cs : List Value} {bs : List Nat} (h : RelL (Rel F w t) xs cs bs) : cs.length = xs.length * t.size :=
  h.length (fun x c b h => Rel.length t x c b h)

theorem RelL.nil_of {α : Type} {R : α → List Value → List Nat → Prop} (hR : ∀ x c b, R x c b → b = []) {xs : List α} {cs : List Value} {bs : List Nat} (h : RelL R xs cs bs) : bs = [] := by
  induction h with
  | nil => rfl
  | cons hx _ ih => rw [hR _ _ _ hx, ih]; rfl

/-- pure data own nothing -/
theorem Rel.pure : ∀ (t : Ty) (x : t.den) (cs : List Value) (bs : List Nat), t.pure = true → Rel F w t x cs bs → bs = [] := by
  intro t
  induction t with
  | int => intro x cs bs _ h; exact h.2
  | bool => intro x cs bs _ h; exact h.2
  | str => intro x cs bs _ h; exact h.2
  | unit => intro x cs bs _ h; exact h.2
  | pair a b iha ihb =>
    rintro x cs bs hp ⟨c1, c2, b1, b2, _, e, h1, h2⟩
    simp only [Ty.pure, Bool.and_eq_true] at hp
    rw [e, iha _ _ _ hp.1 h1, ihb _ _ _ hp.2 h2]; rfl
  | arr n t ih => rintro xs cs bs hp ⟨_, hl⟩; exact hl.nil_of (fun x c b h => ih x c b hp h)
  | sl t _ => rintro xs cs bs _ h; exact h.1
  | own t _ => intro xs cs bs hp; simp [Ty.pure] at hp
  | box t _ => intro xs cs bs hp; simp [Ty.pure] at hp
  | pt t _ => rintro x cs bs _ h; exact h.1

/-- What becomes of a relation when memory turns elsewhere. -/
theorem Rel.keep {F' : Nat → Nat → Prop} (hF : ∀ b o, F b o → F' b o) (hw : ∀ b o, F b o → w'.cell? ⟨b, o, none⟩ = w.cell? ⟨b, o, none⟩) :
    ∀ (t : Ty) (x : t.den) (cs : List Value) (bs : List Nat), (∀ b ∈ bs, w'.heap[b]? = w.heap[b]?) → Rel F w t x cs bs → Rel F' w' t x cs bs := by
  intro t
  induction t with
  | int => intro x cs bs _ h; exact h
  | bool => intro x cs bs _ h; exact h
  | str => intro x cs bs _ h; exact h
  | unit => intro x cs bs _ h; exact h
  | pair a b iha ihb =>
    rintro x cs bs hb ⟨c1, c2, b1, b2, e1, e2, h1, h2⟩
    exact ⟨c1, c2, b1, b2, e1, e2, iha _ _ _ (fun i hi => hb i (by simp [e2, hi])) h1, ihb _ _ _ (fun i hi => hb i (by simp [e2, hi])) h2⟩
  | arr n t ih =>
    rintro xs cs bs hb ⟨hn, hl⟩
    exact ⟨hn, hl.mono_mem fun x c b hs h => ih x c b (fun i hi => hb i (hs i hi)) h⟩
  | sl t ih =>
    rintro xs cs bs hb ⟨e0, a, cap, ms, e, hle, hl, hc⟩
    refine ⟨e0, a, cap, ms, e, hle, hl.mono_mem fun x c b hs h => ih x c b (fun i hi => absurd (hs i hi) (by simp)) h, fun h0 => ?_⟩
    obtain ⟨b, o, e1, h1⟩ := hc h0
    exact ⟨b, o, e1, fun j v hv => ⟨hF _ _ (h1 j v hv).1, by rw [hw _ _ (h1 j v hv).1]; exact (h1 j v hv).2⟩⟩
  | own t ih =>
    rintro xs cs bs hb (h | ⟨g, cap, cur, tag, bs', e1, e2, e3, e4, e5, e6, e7⟩)
    · exact .inl h
    · refine .inr ⟨g, cap, cur, tag, bs', e1, e2, by rw [hb g (by simp [e2])]; exact e3, e4, e5, e6, e7.mono_mem fun x c b hs h => ih x c b (fun i hi => hb i (by simp [e2, hs i hi])) h⟩
  | box t ih =>
    rintro x cs bs hb ⟨g, cur, tag, bs', e1, e2, e3, e4⟩
    exact ⟨g, cur, tag, bs', e1, e2, by rw [hb g (by simp [e2])]; exact e3, ih x _ _ (fun i hi => hb i (by simp [e2, hi])) e4⟩
  | pt t ih =>
    rintro x cs bs hb ⟨e0, b, o, ms, e1, e2, e3⟩
    exact ⟨e0, b, o, ms, e1, ih x _ _ (by simp) e2, fun j v hv => ⟨hF _ _ (e3 j v hv).1, by rw [hw _ _ (e3 j v hv).1]; exact (e3 j v hv).2⟩⟩

theorem Rel.below : ∀ (t : Ty) (x : t.den) (cs : List Value) (bs : List Nat), Rel F w t x cs bs → ∀ b ∈ bs, b < w.heap.size := by
  have hlt : ∀ (g : Nat) (o : Obj), w.heap[g]? = some o → g < w.heap.size := fun g o h => (Array.getElem?_eq_some_iff.1 h).1
  have hL : ∀ (α : Type) (R : α → List Value → List Nat → Prop), (∀ x c b, R x c b → ∀ i ∈ b, i < w.heap.size) → ∀ xs cs bs, RelL R xs cs bs → ∀ i ∈ bs, i < w.heap.size := by
    intro α R hR xs cs bs h
    induction h with
    | nil => simp
    | cons hx _ ih => exact fun i hi => (List.mem_append.1 hi).elim (fun hi => hR _ _ _ hx i hi) (fun hi => ih i hi)
  intro t
  induction t with
  | int => intro x cs bs h; simp [h.2]
  | bool => intro x cs bs h; simp [h.2]
  | str => intro x cs bs h; simp [h.2]
  | unit => intro x cs bs h; simp [h.2]
  | pair a b iha ihb =>
    rintro x cs bs ⟨c1, c2, b1, b2, _, e, h1, h2⟩ i hi
    rw [e] at hi
    exact (List.mem_append.1 hi).elim (fun hi => iha _ _ _ h1 i hi) (fun hi => ihb _ _ _ h2 i hi)
  | arr n t ih => rintro xs cs bs ⟨_, h⟩; exact hL _ _ (fun x c b h => ih x c b h) _ _ _ h
  | sl t ih => rintro xs cs bs ⟨e, _⟩; simp [e]
  | own t ih =>
    rintro xs cs bs (⟨_, _, e⟩ | ⟨g, cap, cur, tag, bs', e1, e2, e3, e4, e5, e6, e7⟩)
    · simp [e]
    · intro i hi
      rw [e2] at hi
      rcases List.mem_cons.1 hi with rfl | hi
      · exact hlt _ _ e3
      · exact hL _ _ (fun x c b h => ih x c b h) _ _ _ e7 i hi
  | box t ih =>
    rintro x cs bs ⟨g, cur, tag, bs', e1, e2, e3, e4⟩ i hi
    rw [e2] at hi
    rcases List.mem_cons.1 hi with rfl | hi
    · exact hlt _ _ e3
    · exact ih _ _ _ e4 i hi
  | pt t _ => rintro x cs bs ⟨e, _⟩; simp [e]

/-- one value: a struct or an array is an aggregate -/
def Val (t : Ty) (v : Value) (cs : List Value) : Prop := if t.isAgg then v = .agg cs.toArray else cs = [v]

theorem Val.cells {t : Ty} {v : Value} {cs : List Value} (h : Val t v cs) (hl : ∀ v, cs = [v] → v.oneCell' = true) : v.cells.toList = cs := by
  unfold Val at h
  split at h
  · subst h; simp [Value.cells]
  · subst h
    have := hl v rfl
    cases v <;> simp_all [Value.cells, Value.oneCell']

/-- no cell is an aggregate -/
theorem Rel.ones : ∀ (t : Ty) (x : t.den) (cs : List Value) (bs : List Nat), Rel F w t x cs bs → ∀ v ∈ cs, v.oneCell' = true := by
  have hL : ∀ (α : Type) (R : α → List Value → List Nat → Prop), (∀ x c b, R x c b → ∀ v ∈ c, v.oneCell' = true) → ∀ xs cs bs, RelL R xs cs bs → ∀ v ∈ cs, v.oneCell' = true := by
    intro α R hR xs cs bs h
    induction h with
    | nil => simp
    | cons hx _ ih => exact fun i hi => (List.mem_append.1 hi).elim (fun hi => hR _ _ _ hx i hi) (fun hi => ih i hi)
  intro t
  induction t with
  | int => intro x cs bs h; simp [h.1, Value.oneCell']
  | bool => intro x cs bs h; simp [h.1, Value.oneCell']
  | str => intro x cs bs h; simp [h.1, Value.oneCell']
  | unit => intro x cs bs h; simp [h.1]
  | pair a b iha ihb =>
    rintro x cs bs ⟨c1, c2, b1, b2, e, _, h1, h2⟩ i hi
    rw [e] at hi
    exact (List.mem_append.1 hi).elim (fun hi => iha _ _ _ h1 i hi) (fun hi => ihb _ _ _ h2 i hi)
  | arr n t ih => rintro xs cs bs ⟨_, h⟩; exact hL _ _ (fun x c b h => ih x c b h) _ _ _ h
  | sl t ih => rintro xs cs bs ⟨_, a, cap, ms, e, _⟩; simp [e, Value.oneCell']
  | own t ih =>
    rintro xs cs bs (⟨_, e, _⟩ | ⟨g, cap, cur, tag, bs', e1, _⟩)
    · simp [e, Value.oneCell']
    · simp [e1, Value.oneCell']
  | box t ih =>
    rintro x cs bs ⟨g, cur, tag, bs', e1, _⟩
    simp [e1, Value.oneCell']
  | pt t _ =>
    rintro x cs bs ⟨_, b, o, ms, e1, _⟩
    simp [e1, Value.oneCell']
end Go.D
