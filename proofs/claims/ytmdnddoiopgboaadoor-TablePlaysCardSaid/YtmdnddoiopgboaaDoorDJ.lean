/- The abstract machine D, part J: its operations are the machine's, continued. -/
import Derived.Test.YtmdnddoiopgboaaDoorDI
namespace Go.D
set_option linter.unusedSimpArgs false
set_option linter.unusedVariables false

variable {F F' : Nat → Nat → Prop} {w w' w2 : World} {P : Program} {st st' : St} {L L' : Nat → RLoc} {B B' : Nat → List Nat} {B0 : Base} {F0 : Nat → Nat → Prop} {w0 : World}

theorem get_set_ty : ∀ (p : List Step) (t : Ty) (x : t.den) (u v : DVal) (y : t.den), get p t x = some u → set p t x v = some y → v.t = u.t := by
  intro p
  induction p with
  | nil =>
    intro t x u v y h1 h2
    simp only [get, Option.some.injEq] at h1
    subst h1
    simp only [set] at h2
    split at h2
    · assumption
    · cases h2
  | cons s p ih =>
    intro t x u v y h1 h2
    cases s <;> cases t <;> simp only [get, set, Option.map_eq_some_iff] at h1 h2 <;> first
      | (obtain ⟨y', h2, _⟩ := h2; exact ih _ _ _ _ _ h1 h2)
      | exact ih _ _ _ _ _ h1 h2
      | cases h1

/-- a part of a value is replaced -/
theorem set_cells (hfz : ∀ b j, F b j → b < w.heap.size) {t : Ty} {x y : t.den} {cs c : List Value} {p : List Step} {off : Nat} {u d : DVal} (ht : t.pure = true) (h : Rel F w t x cs []) (hv : Valid p t x) (hl : ∀ (w : World) g o, Loc w p t g o g (o + off)) (hg : get p t x = some u)
    (hs : set p t x d = some y) (hd : Rel F w d.t d.x c []) (hp : u.t.pure = true) : Rel F w t y (splice cs off c) [] ∧ off + c.length ≤ cs.length := by
  have hF1 : ∀ (o : Obj) b j, F b j → (w.alloc o).cell? ⟨b, j, none⟩ = w.cell? ⟨b, j, none⟩ := fun o b j hF => cell_of_heap (heap_alloc_old w o b (hfz b j hF))
  have hnew := heap_alloc_new w (.cells cs.toArray 0)
  have hk : ∀ (t : Ty) (x : t.den) (cs' : List Value), Rel F w t x cs' [] → Rel F (w.alloc (.cells cs.toArray 0)) t x cs' [] := fun t x cs' h => Rel.keep (fun _ _ h => h) (hF1 _) _ _ _ _ (by simp) h
  have hh : HoldsAt (w.alloc (.cells cs.toArray 0)) w.heap.size 0 cs := ⟨cs.toArray, 0, [], [], hnew, by simp, rfl⟩
  have hl1 := hl (w.alloc (.cells cs.toArray 0)) w.heap.size 0
  rw [Nat.zero_add] at hl1
  obtain ⟨cs', bs', k1, k2, _⟩ := get_spec p t x cs [] _ _ _ _ u (hk _ _ _ h) hh hv hl1 hg
  have hlen : c.length = cs'.length := by rw [Rel.length _ _ _ _ hd, Rel.length _ _ _ _ k1, get_set_ty _ _ _ _ _ _ hg hs]
  have hfit := k2.fits hlen
  rw [hnew] at hfit
  simp only [Option.map_some, Option.getD_some, List.size_toArray] at hfit
  have hu : Upd (w.alloc (.cells cs.toArray 0)) ((w.alloc (.cells cs.toArray 0)).setRow w.heap.size (splice cs off c).toArray) w.heap.size off c :=
    ⟨rfl, rfl, rfl, by simp, fun b hb => setRow_other _ _ b _ hb, cs.toArray, 0, hnew, setRow_heap _ _ _ _ _ _ hnew⟩
  have hnF : ∀ j, ¬ F w.heap.size j := fun j hF => absurd (hfz _ _ hF) (by omega)
  have hFk : ∀ b j, F b j → ((w.alloc (.cells cs.toArray 0)).setRow w.heap.size (splice cs off c).toArray).cell? ⟨b, j, none⟩ = (w.alloc (.cells cs.toArray 0)).cell? ⟨b, j, none⟩ := fun b j hF =>
    cell_of_heap (setRow_other _ _ b _ (fun e => hnF j (e ▸ hF)))
  obtain ⟨cs2, m1, m2, m3⟩ := set_spec p t x cs [] _ 0 _ off u d y c (hk _ _ _ h) hh (by simp) (fun j _ _ => hnF j) hFk hv hl1 hg hp hs (hk _ _ _ hd) hu
  have m4 := m3 cs.toArray 0 [] [] hnew (by simp) rfl
  rw [setRow_heap _ _ _ _ _ _ hnew] at m4
  simp only [List.nil_append, List.append_nil, Option.some.injEq, Obj.cells.injEq, and_true] at m4
  have m4 : splice cs off c = cs2 := by simpa using m4
  rw [m4]
  exact ⟨Rel.keep (fun _ _ h => h) (fun b j hF => by rw [← hF1 (.cells cs.toArray 0) b j hF]; exact (hFk b j hF).symm) _ _ _ _ (by simp) m1, hfit⟩

theorem splice_step (l : List Value) (k : Nat) (v : Value) (c : List Value) (h : k < l.length) : splice (l.set k v) (k + 1) c = splice l k (v :: c) := by
  unfold splice
  have h1 : (l.set k v).take (k + 1) = l.take k ++ [v] := by
    rw [List.take_succ_eq_append_getElem (by simpa using h), List.take_set, List.set_eq_of_length_le (by simp; omega)]
    simp
  have h2 : (l.set k v).drop (k + 1 + c.length) = l.drop (k + (v :: c).length) := by
    rw [List.drop_set, if_pos (by omega)]
    congr 1
    simp
    omega
  rw [h1, h2]
  simp
theorem fold_splice : ∀ (c : List Value) (cells : Array Value) (off k : Nat), off + k + c.length ≤ cells.size →
    ((c.zipIdx k).foldl (fun cs x => cs.setIfInBounds (off + x.2) x.1) cells).toList = splice cells.toList (off + k) c
  | [], cells, off, k, _ => by simp [splice]
  | v :: c, cells, off, k, h => by
    simp only [List.length_cons] at h
    simp only [List.zipIdx_cons, List.foldl_cons]
    rw [fold_splice c _ off (k + 1) (by simp; omega)]
    simp only [Array.toList_setIfInBounds]
    rw [← Nat.add_assoc, splice_step _ _ _ _ (by simp; omega)]

/-- one part is filled in -/
theorem fill_step {place : Nat → Option (Nat × Nat)} {cells : Array Value} {i : Nat} {v : Value} {rest : List (Nat × Value)} {off : Nat} {c : List Value} (hp : place i = some (off, c.length)) (hc : v.cells.toList = c) (hl : off + c.length ≤ cells.size) :
    ∃ cells', cells'.toList = splice cells.toList off c ∧ Instr.fill place cells ((i, v) :: rest) = Instr.fill place cells' rest := by
  have hs : v.cells.size = c.length := by rw [← hc]; simp
  refine ⟨(c.zipIdx 0).foldl (fun cs x => cs.setIfInBounds (off + x.2) x.1) cells, ?_, ?_⟩
  · simpa using fold_splice c cells off 0 (by omega)
  · rw [Instr.fill, hp]
    simp only [hs, ne_eq, not_true_eq_false, decide_false, Bool.false_or]
    rw [if_neg (by simp; omega)]
    congr 1
    rw [← Array.foldl_toList, Array.toList_zipIdx, hc]

inductive RelPs (F : Nat → Nat → Prop) (w : World) : List (Nat × DVal) → List (Nat × Value) → Prop where
  | nil : RelPs F w [] []
  | cons {i : Nat} {d : DVal} {ds : List (Nat × DVal)} {v : Value} {vs : List (Nat × Value)} (h : RelD F w d v) (t : RelPs F w ds vs) : RelPs F w ((i, d) :: ds) ((i, v) :: vs)
theorem RelPs.keep (hF : ∀ b j, F b j → F' b j) (hw : ∀ b j, F b j → w'.cell? ⟨b, j, none⟩ = w.cell? ⟨b, j, none⟩) {ds : List (Nat × DVal)} {vs : List (Nat × Value)} (h : RelPs F w ds vs) : RelPs F' w' ds vs := by
  induction h with
  | nil => exact .nil
  | cons h _ ih => exact .cons (h.keep hF hw) ih

theorem RelD.cells {d : DVal} {v : Value} (h : RelD F w d v) : ∃ c, v.cells.toList = c ∧ Rel F w d.t d.x c [] ∧ c.length = d.t.size := by
  obtain ⟨c, h1, h2⟩ := h
  refine ⟨c, h1.cells (fun v e => ?_), h2, Rel.length _ _ _ _ h2⟩
  exact Rel.ones _ _ _ _ h2 v (by simp [e])

def stepOf (isArr : Bool) (i : Nat) : List Step := if isArr then [.idx i] else fieldSteps i
/-- where a part lies: the machine's and D's ways agree -/
structure PartOk (pl : Nat → Option (Nat × Nat)) (isArr : Bool) (t : Ty) (i : Nat) (u : Ty) : Prop where
  ex : ∃ off, pl i = some (off, u.size) ∧ (∀ x, Valid (stepOf isArr i) t x) ∧ (∀ (w : World) g o, Loc w (stepOf isArr i) t g o g (o + off)) ∧ Ty.at? (stepOf isArr i) t = some u ∧ u.pure = true

theorem fill_spec {pl : Nat → Option (Nat × Nat)} {isArr : Bool} (hfz : ∀ b j, F b j → b < w.heap.size) {t : Ty} (ht : t.pure = true) {ds : List (Nat × DVal)} {parts : List (Nat × Value)} (hr : RelPs F w ds parts) :
    ∀ (x y : t.den) (cells : Array Value), (∀ i d, (i, d) ∈ ds → PartOk pl isArr t i d.t) → Rel F w t x cells.toList [] → place isArr ds t x = some y → ∃ cells', Instr.fill pl cells parts = some cells' ∧ Rel F w t y cells'.toList [] := by
  induction hr with
  | nil =>
    intro x y cells _ hc hp
    simp only [place, Option.some.injEq] at hp
    subst hp
    exact ⟨cells, rfl, hc⟩
  | @cons i d ds v vs hd _ ih =>
    intro x y cells hok hc hp
    simp only [place] at hp
    split at hp <;> try (cases hp; done)
    rename_i x1 hset
    obtain ⟨off, h1, h2, h3, h4, h5⟩ := (hok i d (by simp)).ex
    obtain ⟨c, e1, e2, e3⟩ := hd.cells
    obtain ⟨u0, hg⟩ := at_get _ _ x _ h4
    obtain ⟨k1, k2⟩ := set_cells hfz ht hc (h2 x) h3 hg hset e2 h5
    obtain ⟨cells', m1, m2⟩ := fill_step (place := pl) (cells := cells) (i := i) (v := v) (rest := vs) (off := off) (c := c) (by rw [h1, e3]) e1 (by simpa using k2)
    rw [m2]
    exact ih x1 y cells' (fun i d h => hok i d (by simp [h])) (by rw [m1]; exact k1) hp

/-! ### A struct that is built of rows -/
theorem splice_front (c1 c2 c : List Value) (h : c.length = c1.length) : splice (c1 ++ c2) 0 c = c ++ c2 := by
  simp [splice, h]
theorem splice_behind (c1 c2 c : List Value) (o : Nat) : splice (c1 ++ c2) (o + c1.length) c = c1 ++ splice c2 o c := by
  have h1 : (c1 ++ c2).take (o + c1.length) = c1 ++ c2.take o := by rw [Nat.add_comm, List.take_length_add_append]
  have h2 : (c1 ++ c2).drop (o + c1.length + c.length) = c2.drop (o + c.length) := by rw [Nat.add_right_comm, Nat.add_comm, List.drop_length_add_append]
  simp only [splice, h1, h2, List.append_assoc]
theorem set_fieldO : ∀ (i : Nat) (t : Ty) (x y : t.den) (cs : List Value) (bs : List Nat) (off : Nat) (d : DVal) (c : List Value) (bd : List Nat), fieldAt i t = some (off, d.t) → Rel F w t x cs bs → set (fieldSteps i) t x d = some y → Rel F w d.t d.x c bd →
    bs.Nodup → bd.Nodup → (∀ b ∈ bd, b ∉ bs) → ∃ bs', Rel F w t y (splice cs off c) bs' ∧ bs'.Nodup ∧ (∀ b ∈ bs', b ∈ bs ∨ b ∈ bd) ∧ off + c.length ≤ cs.length := by
  intro i
  induction i with
  | zero =>
    intro t x y cs bs off d c bd hf hr hs hd hn hnd hap
    cases t <;> simp only [fieldAt, reduceCtorEq, Option.some.injEq, Prod.mk.injEq] at hf
    rename_i ta tb
    obtain ⟨rfl, rfl⟩ := hf
    obtain ⟨c1, c2, b1, b2, rfl, rfl, h1, h2⟩ := hr
    have hs : (set [] d.t x.1 d).map (fun y => (y, x.2)) = some y := hs
    simp only [set, dif_pos, Option.map_some, Option.some.injEq] at hs
    subst hs
    have hlen : c.length = c1.length := by rw [Rel.length _ _ _ _ hd, Rel.length _ _ _ _ h1]
    obtain ⟨n1, n2, n3⟩ := List.nodup_append.1 hn
    refine ⟨bd ++ b2, ⟨c, c2, bd, b2, splice_front _ _ _ hlen, rfl, hd, h2⟩, List.nodup_append.2 ⟨hnd, n2, fun u hu v hv e => hap u hu (by simp [e, hv])⟩, fun b hb => ?_, by simp [hlen]⟩
    rcases List.mem_append.1 hb with hb | hb
    · exact .inr hb
    · exact .inl (by simp [hb])
  | succ i ih =>
    intro t x y cs bs off d c bd hf hr hs hd hn hnd hap
    cases t <;> simp only [fieldAt, reduceCtorEq, Option.map_eq_some_iff] at hf
    rename_i ta tb
    obtain ⟨⟨o, u⟩, hf, he⟩ := hf
    simp only [Prod.mk.injEq] at he
    obtain ⟨rfl, rfl⟩ := he
    obtain ⟨c1, c2, b1, b2, rfl, rfl, h1, h2⟩ := hr
    have hs2 : (set (fieldSteps i) tb x.2 d).map (fun y => (x.1, y)) = some y := hs
    clear hs
    rw [Option.map_eq_some_iff] at hs2
    obtain ⟨y2, hs, rfl⟩ := hs2
    obtain ⟨n1, n2, n3⟩ := List.nodup_append.1 hn
    obtain ⟨b2', k1, k2, k3, k4⟩ := ih tb x.2 y2 c2 b2 o d c bd hf h2 hs hd n2 hnd (fun b hb h => hap b hb (by simp [h]))
    have hl1 : c1.length = ta.size := Rel.length _ _ _ _ h1
    refine ⟨b1 ++ b2', ⟨c1, splice c2 o c, b1, b2', by rw [← hl1, splice_behind], rfl, h1, k1⟩, List.nodup_append.2 ⟨n1, k2, fun u hu v hv e => ?_⟩, fun b hb => ?_, by simp; omega⟩
    · subst e
      rcases k3 u hv with h | h
      · exact n3 u hu u h rfl
      · exact hap u h (by simp [hu])
    · rcases List.mem_append.1 hb with hb | hb
      · exact .inl (by simp [hb])
      · rcases k3 b hb with h | h
        · exact .inl (by simp [h])
        · exact .inr h

theorem zeroCells_rel : ∀ (t : Ty) (cs r : List Value), zeroCells? t cs = some r → ∃ c, cs = c ++ r ∧ Rel F w t t.dflt c [] := by
  intro t
  induction t with
  | int k =>
    intro cs r h
    simp only [zeroCells?] at h
    split at h <;> try (cases h; done)
    split at h <;> cases h
    rename_i he
    obtain ⟨rfl, rfl⟩ := he
    exact ⟨[_], rfl, rfl, rfl⟩
  | bool =>
    intro cs r h
    simp only [zeroCells?] at h
    split at h <;> try (cases h; done)
    split at h <;> cases h
    rename_i he
    exact ⟨[_], rfl, by simp [Rel, Ty.dflt, he]⟩
  | unit =>
    intro cs r h
    simp only [zeroCells?, Option.some.injEq] at h
    subst h
    exact ⟨[], rfl, rfl, rfl⟩
  | pair a b iha ihb =>
    intro cs r h
    simp only [zeroCells?] at h
    rw [Option.bind_eq_some_iff] at h
    obtain ⟨r1, h1, h2⟩ := h
    obtain ⟨c1, e1, k1⟩ := iha _ _ h1
    obtain ⟨c2, e2, k2⟩ := ihb _ _ h2
    exact ⟨c1 ++ c2, by rw [e1, e2, List.append_assoc], c1, c2, [], [], rfl, rfl, k1, k2⟩
  | own t _ =>
    intro cs r h
    simp only [zeroCells?] at h
    split at h <;> try (cases h; done)
    cases h
    exact ⟨[_], rfl, .inl ⟨rfl, rfl, rfl⟩⟩
  | sl t _ =>
    intro cs r h
    simp only [zeroCells?] at h
    split at h <;> try (cases h; done)
    cases h
    exact ⟨[_], rfl, rfl, none, 0, [], rfl, Nat.le_refl _, .nil, fun h => absurd h (by simp [Ty.dflt])⟩
  | _ => intro cs r h; simp [zeroCells?] at h

inductive RelPo (F : Nat → Nat → Prop) (w : World) : List (Nat × DVal) → List (Nat × Value) → List Nat → Prop where
  | nil : RelPo F w [] [] []
  | cons {i : Nat} {d : DVal} {ds : List (Nat × DVal)} {v : Value} {vs : List (Nat × Value)} {c : List Value} {b bs : List Nat} (hv : Val d.t v c) (h : Rel F w d.t d.x c b) (t : RelPo F w ds vs bs) : RelPo F w ((i, d) :: ds) ((i, v) :: vs) (b ++ bs)

theorem fillO_spec {pl : Nat → Option (Nat × Nat)} {t : Ty} {ds : List (Nat × DVal)} {parts : List (Nat × Value)} {bp : List Nat} (hr : RelPo F w ds parts bp) :
    ∀ (x y : t.den) (cells : Array Value) (bs : List Nat), (∀ i d, (i, d) ∈ ds → ∃ off, fieldAt i t = some (off, d.t) ∧ pl i = some (off, d.t.size)) → Rel F w t x cells.toList bs → place false ds t x = some y → bp.Nodup → bs.Nodup → (∀ b ∈ bp, b ∉ bs) →
      ∃ cells' bs', Instr.fill pl cells parts = some cells' ∧ Rel F w t y cells'.toList bs' ∧ bs'.Nodup ∧ ∀ b ∈ bs', b ∈ bs ∨ b ∈ bp := by
  induction hr with
  | nil =>
    intro x y cells bs _ hc hp _ hn _
    simp only [place, Option.some.injEq] at hp
    subst hp
    exact ⟨cells, bs, rfl, hc, hn, fun b h => .inl h⟩
  | @cons i d ds v vs c b bp hv hd _ ih =>
    intro x y cells bs hok hc hp hnp hn hap
    simp only [place, Bool.false_eq_true, if_false] at hp
    split at hp <;> try (cases hp; done)
    rename_i x1 hset
    obtain ⟨off, h1, h2⟩ := hok i d (by simp)
    obtain ⟨n1, n2, n3⟩ := List.nodup_append.1 hnp
    have e3 : c.length = d.t.size := Rel.length _ _ _ _ hd
    have e1 : v.cells.toList = c := hv.cells (fun v e => Rel.ones _ _ _ _ hd v (by simp [e]))
    obtain ⟨bs1, k1, k2, k3, k4⟩ := set_fieldO i t x x1 cells.toList bs off d c b h1 hc hset hd hn n1 (fun b' hb' => hap b' (by simp [hb']))
    obtain ⟨cells', m1, m2⟩ := fill_step (place := pl) (cells := cells) (i := i) (v := v) (rest := vs) (off := off) (c := c) (by rw [h2, e3]) e1 (by simpa using k4)
    rw [m2]
    obtain ⟨cells2, bs2, q1, q2, q3, q4⟩ := ih x1 y cells' bs1 (fun i d h => hok i d (by simp [h])) (by rw [m1]; exact k1) hp n2 k2 (fun b' hb' h => by
      rcases k3 b' h with h | h
      · exact hap b' (by simp [hb']) h
      · exact n3 b' h b' hb' rfl)
    refine ⟨cells2, bs2, q1, q2, q3, fun b' hb' => ?_⟩
    rcases q4 b' hb' with h | h
    · rcases k3 b' h with h | h
      · exact .inl h
      · exact .inr (by simp [h])
    · exact .inr (by simp [h])

/-! ### Operands as data -/
/-- objects have been frozen, and nothing else -/
structure FE (F : Nat → Nat → Prop) (st : St) (F' : Nat → Nat → Prop) (st' : St) : Prop where
  fm : ∀ b j, F b j → F' b j
  get : ∀ k t x v z, st.get k = some ⟨t, x, v, z⟩ → ∃ z', st'.get k = some ⟨t, x, v, z'⟩
theorem FE.refl (F : Nat → Nat → Prop) (st : St) : FE F st F st := ⟨fun _ _ h => h, fun _ _ _ _ z h => ⟨z, h⟩⟩
theorem FE.trans {F1 F2 F3 : Nat → Nat → Prop} {s1 s2 s3 : St} (h : FE F1 s1 F2 s2) (k : FE F2 s2 F3 s3) : FE F1 s1 F3 s3 :=
  ⟨fun b j hb => k.fm b j (h.fm b j hb), fun i t x v z hg => by
    obtain ⟨z', e⟩ := h.get i t x v z hg
    exact k.get i t x v z' e⟩
theorem FE.ext (h : FE F st F' st') (w : World) (L : Nat → RLoc) (dead : Option Nat) : Ext F w st L F' w st' L dead :=
  ⟨h.fm, fun _ _ _ => rfl, fun k ob _ hg => by
    obtain ⟨z', e⟩ := h.get k ob.t ob.x ob.vir ob.fz hg
    exact ⟨ob.x, z', e, rfl, fun _ h => h, Stay.refl⟩⟩

theorem putAll_append (l l' : List (Nat × DObj)) : ∀ st, putAll (l ++ l') st = putAll l' (putAll l st) := by
  induction l with
  | nil => intro st; rfl
  | cons p l ih => intro st; obtain ⟨k, o⟩ := p; exact ih _

section
variable {fr : List DV} {a : Act} {C : Cfg} {env : Env}

theorem Core.still (h : Core B0 F0 w0 st fr a w F L B) {k : Nat} {t : Ty} {xs : List t.den} {z1 z2 : Nat} (hk : st.get k = some ⟨.sl t, xs, true, z1⟩) : Core B0 F0 w0 (st.put k ⟨.sl t, xs, true, z2⟩) fr a w F L B := by
  have hget : ∀ j o, j ≠ k → (st.put k ⟨.sl t, xs, true, z2⟩).get j = some o → st.get j = some o := fun j o hj hg => by rwa [get_put_other _ hj] at hg
  have hsome : ∀ j, ((st.put k ⟨.sl t, xs, true, z2⟩).get j).isSome = true → (st.get j).isSome = true := fun j hj => by
    by_cases e : j = k
    · subst e; simp [hk]
    · rwa [get_put_other _ e] at hj
  have hext : Ext F w st L F w (st.put k ⟨.sl t, xs, true, z2⟩) L none := ⟨fun _ _ h => h, fun _ _ _ => rfl, fun j ob _ hj => by
    by_cases e : j = k
    · subst e
      rw [hk] at hj
      cases hj
      exact ⟨xs, z2, get_put_same _ _ _, rfl, fun _ h => h, Stay.refl⟩
    · exact ⟨ob.x, ob.fz, by rw [get_put_other _ e]; exact hj, rfl, fun _ h => h, Stay.refl⟩⟩
  refine ⟨⟨fun j ob hj => ?_, fun j ob hj => ?_, fun i j hij hi hj => h.sim.apart i j hij (hsome i hi) (hsome j hj), h.sim.froz, fun j ob hj => ?_, fun v ob hv hj => by
      by_cases e : pinKey = k
      · exact h.sim.pin v _ hv (by rw [e]; exact hk)
      · exact h.sim.pin v ob hv (hget _ ob e hj)⟩,
    ⟨h.fr.len, fun i d hd => (h.fr.rel i d hd).ext h.sim hext (by simp), h.fr.glob.keep hext.fm hext.cell⟩, h.lo, h.hi, h.below, h.base, h.defers⟩
  · by_cases e : j = k
    · subst e
      rw [get_put_same] at hj
      cases hj
      have := h.sim.obj j _ hk
      cases hL : L j <;> rw [hL] at this <;> exact this
    · exact h.sim.obj j ob (hget j ob e hj)
  · by_cases e : j = k
    · subst e
      rw [get_put_same] at hj
      cases hj
      have := h.sim.thaw j _ hk
      exact this
    · exact h.sim.thaw j ob (hget j ob e hj)
  · by_cases e : j = k
    · subst e
      exact h.sim.own j _ hk
    · exact h.sim.own j ob (hget j ob e hj)
/-- a row that is data -/
theorem still_data (hs : Sim B0 F w st L B) {k : Nat} {t : Ty} {xs : List t.den} {z : Nat} (hk : st.get k = some ⟨.sl t, xs, true, z⟩) {v : Value} (hv : RelV F w st L (.ref k) v) : t.pure = true ∧ RelD F w ⟨.sl t, xs⟩ v := by
  obtain ⟨ob, e1, e2, e3⟩ := hv
  have ho := hs.obj k _ hk
  rw [e3] at ho
  obtain ⟨hp, hr⟩ := ho
  have hb := Rel.pure (.sl t) _ _ _ hp hr
  rw [hb] at hr
  exact ⟨hp, [v], rfl, hr⟩
theorem datum_spec {F1 : Nat → Nat → Prop} {st1 : St} (h : Core B0 F0 w0 st1 fr a w F1 L B) (hfe : FE F st F1 st1) (hs : Sim B0 F w st L B) {r : RV} {v : Value} (ho : Opd F w st L r v) {d : DVal} {l : List (Nat × DObj)} (hd : r.datum = some (d, l)) :
    ∃ F2, Core B0 F0 w0 (putAll l st1) fr a w F2 L B ∧ FE F1 st1 F2 (putAll l st1) ∧ RelD F2 w d v := by
  cases r with
  | data d' =>
    simp only [RV.datum, Option.some.injEq, Prod.mk.injEq] at hd
    obtain ⟨rfl, rfl⟩ := hd
    exact ⟨F1, h, FE.refl .., ho.rel.keep hfe.fm (fun _ _ _ => rfl)⟩
  | ref k o =>
    obtain ⟨t, x, vir, z⟩ := o
    have hk := ho.ref k _ rfl
    cases t <;> cases vir <;> simp only [RV.datum, reduceCtorEq, Option.some.injEq, Prod.mk.injEq] at hd
    · obtain ⟨rfl, rfl⟩ := hd
      obtain ⟨z1, hk1⟩ := hfe.get k _ _ _ _ hk
      have hv : RelV F1 w st1 L (.ref k) v := ho.rel.ext hs (hfe.ext w L none) (by simp)
      refine ⟨F1, h.still hk1, ⟨fun _ _ h => h, fun j t' x' v' z' hj => ?_⟩, (still_data h.sim hk1 hv).2⟩
      by_cases e : j = k
      · subst e
        rw [hk1] at hj
        cases hj
        exact ⟨_, get_put_same _ _ _⟩
      · exact ⟨z', by simp only [putAll]; rw [get_put_other _ e]; exact hj⟩
    obtain ⟨rfl, rfl⟩ := hd
    obtain ⟨z1, hk1⟩ := hfe.get k _ _ _ _ hk
    have hv : RelV F1 w st1 L (.ref k) v := ho.rel.ext hs (hfe.ext w L none) (by simp)
    obtain ⟨F2, c1, c2, c3⟩ := h.freeze hk1 hv
    refine ⟨F2, c1, ⟨c2.fm, fun j t x v z hj => ?_⟩, c3⟩
    by_cases e : j = k
    · subst e
      rw [hk1] at hj
      cases hj
      exact ⟨_, get_put_same _ _ _⟩
    · exact ⟨z, by simp only [putAll]; rw [get_put_other _ e]; exact hj⟩
  | _ => simp [RV.datum] at hd

theorem datumAs_spec {F1 : Nat → Nat → Prop} {st1 : St} (h : Core B0 F0 w0 st1 fr a w F1 L B) (hfe : FE F st F1 st1) (hs : Sim B0 F w st L B) {r : RV} {v : Value} (ho : Opd F w st L r v) {t : Ty} {d : DVal} {l : List (Nat × DObj)} (hd : r.datumAs t = some (d, l)) :
    ∃ F2, Core B0 F0 w0 (putAll l st1) fr a w F2 L B ∧ FE F1 st1 F2 (putAll l st1) ∧ RelD F2 w d v ∧ d.t = t := by
  by_cases hr : r = .nilsl
  · subst hr
    have hv : v = .slice none 0 0 := ho.rel
    cases t <;> simp only [RV.datumAs, reduceCtorEq, Option.some.injEq, Prod.mk.injEq] at hd
    obtain ⟨rfl, rfl⟩ := hd
    exact ⟨F1, h, FE.refl .., ⟨[v], rfl, rfl, none, 0, [], by rw [hv]; rfl, Nat.le_refl _, .nil, fun h => absurd h (by simp)⟩, rfl⟩
  · have e : r.datumAs t = (match r.datum with | some (d, l) => if d.t = t then some (d, l) else none | none => none) := by
      cases r <;> first | rfl | exact absurd rfl hr
    rw [e] at hd
    split at hd <;> try (cases hd; done)
    rename_i d' l' e1
    split at hd <;> try (cases hd; done)
    rename_i ht
    cases hd
    obtain ⟨F2, c1, c2, c3⟩ := datum_spec h hfe hs ho e1
    exact ⟨F2, c1, c2, c3, ht⟩

theorem argAs_spec {F1 : Nat → Nat → Prop} {st1 : St} (h : Core B0 F0 w0 st1 fr a w F1 L B) (hfe : FE F st F1 st1) (hs : Sim B0 F w st L B) {r : RV} {v : Value} (ho : Opd F w st L r v) {t : Ty} {d : DVal} {l : List (Nat × DObj)} (hd : argAs t r = some (d, l)) :
    ∃ F2, Core B0 F0 w0 (putAll l st1) fr a w F2 L B ∧ FE F1 st1 F2 (putAll l st1) ∧ RelD F2 w d v := by
  by_cases hr : ∃ d, r = .rop d
  · obtain ⟨d', rfl⟩ := hr
    simp only [argAs] at hd
    split at hd <;> try (cases hd; done)
    split at hd <;> try (cases hd; done)
    cases hd
    obtain ⟨b, o, cs, e, h1, h2⟩ : RelV F1 w st1 L (.rop d') v := ho.rel.ext hs (hfe.ext w L none) (by simp)
    exact ⟨F1, h, FE.refl .., [v], rfl, rfl, b, o, cs, by rw [e], h1, h2⟩
  · have e : argAs t r = r.datumAs t := by
      cases r <;> first | rfl | exact absurd ⟨_, rfl⟩ hr
    rw [e] at hd
    obtain ⟨F2, c1, c2, c3, _⟩ := datumAs_spec h hfe hs ho hd
    exact ⟨F2, c1, c2, c3⟩
theorem argsAs_spec (hs : Sim B0 F w st L B) : ∀ (ts : List Ty) (rs : List RV) (vs : List Value) {F1 : Nat → Nat → Prop} {st1 : St} (h : Core B0 F0 w0 st1 fr a w F1 L B) (hfe : FE F st F1 st1) (hl : rs.length = vs.length) (ho : ∀ (i : Nat) (r : RV) (v : Value), rs[i]? = some r → vs[i]? = some v → Opd F w st L r v)
    {ds : List DVal} {l : List (Nat × DObj)} (hd : argsAs ts rs = some (ds, l)), ∃ F2, Core B0 F0 w0 (putAll l st1) fr a w F2 L B ∧ FE F1 st1 F2 (putAll l st1) ∧ RelDs F2 w ds vs := by
  intro ts
  induction ts with
  | nil =>
    intro rs vs F1 st1 h hfe hl ho ds l hd
    cases rs with
    | nil =>
      simp only [argsAs, Option.some.injEq, Prod.mk.injEq] at hd
      obtain ⟨rfl, rfl⟩ := hd
      have : vs = [] := List.length_eq_zero_iff.1 hl.symm
      subst this
      exact ⟨F1, h, FE.refl .., .nil⟩
    | cons r rs => simp [argsAs] at hd
  | cons t ts ih =>
    intro rs vs F1 st1 h hfe hl ho ds l hd
    cases rs with
    | nil => simp [argsAs] at hd
    | cons r rs =>
      cases vs with
      | nil => simp at hl
      | cons v vs =>
        simp only [argsAs] at hd
        split at hd <;> try (cases hd; done)
        rename_i d l1 ds' l2 e1 e2
        cases hd
        obtain ⟨F2, c1, c2, c3⟩ := argAs_spec h hfe hs (ho 0 r v rfl rfl) e1
        obtain ⟨F3, k1, k2, k3⟩ := ih rs vs c1 (hfe.trans c2) (by simpa using hl) (fun i r v h1 h2 => ho (i + 1) r v (by simpa using h1) (by simpa using h2)) e2
        exact ⟨F3, by rw [putAll_append]; exact k1, by rw [putAll_append]; exact c2.trans k2, .cons (c3.keep k2.fm (fun _ _ _ => rfl)) k3⟩

theorem partsAs_spec (hs : Sim B0 F w st L B) (ty : Nat → Option Ty) : ∀ (ps : List (Nat × RV)) (vs : List (Nat × Value)) {F1 : Nat → Nat → Prop} {st1 : St} (h : Core B0 F0 w0 st1 fr a w F1 L B) (hfe : FE F st F1 st1) (hl : ps.map (·.1) = vs.map (·.1)) (ho : ∀ (i : Nat) (r : Nat × RV) (v : Nat × Value), ps[i]? = some r → vs[i]? = some v → Opd F w st L r.2 v.2)
    {ds : List (Nat × DVal)} {l : List (Nat × DObj)} (hd : partsAs ty ps = some (ds, l)), ∃ F2, Core B0 F0 w0 (putAll l st1) fr a w F2 L B ∧ FE F1 st1 F2 (putAll l st1) ∧ RelPs F2 w ds vs ∧ ∀ i d, (i, d) ∈ ds → ty i = some d.t := by
  intro ps
  induction ps with
  | nil =>
    intro vs F1 st1 h hfe hl ho ds l hd
    simp only [partsAs, Option.some.injEq, Prod.mk.injEq] at hd
    obtain ⟨rfl, rfl⟩ := hd
    have : vs = [] := by simpa using hl
    subst this
    exact ⟨F1, h, FE.refl .., .nil, by simp⟩
  | cons p ps ih =>
    intro vs F1 st1 h hfe hl ho ds l hd
    obtain ⟨i, r⟩ := p
    cases vs with
    | nil => simp at hl
    | cons v vs =>
      obtain ⟨i', v⟩ := v
      simp only [List.map_cons, List.cons.injEq] at hl
      obtain ⟨rfl, hl⟩ := hl
      simp only [partsAs] at hd
      split at hd <;> try (cases hd; done)
      rename_i t ht
      split at hd <;> try (cases hd; done)
      rename_i d l1 ds' l2 e1 e2
      cases hd
      obtain ⟨F2, c1, c2, c3, c4⟩ := datumAs_spec h hfe hs (ho 0 (i, r) (i, v) rfl rfl) e1
      obtain ⟨F3, k1, k2, k3, k4⟩ := ih vs c1 (hfe.trans c2) hl (fun i r v h1 h2 => ho (i + 1) r v (by simpa using h1) (by simpa using h2)) e2
      refine ⟨F3, by rw [putAll_append]; exact k1, by rw [putAll_append]; exact c2.trans k2, .cons (c3.keep k2.fm (fun _ _ _ => rfl)) k3, fun j d' hm => ?_⟩
      rcases List.mem_cons.1 hm with hm | hm
      · cases hm; rw [ht, c4]
      · exact k4 j d' hm
end
end Go.D
