/- The abstract machine D, part U: what is read of memory, as data. -/
import Derived.Test.YtmdnddoiopgboaaDoorDT
import Derived.OpenShut
import Derived.ChangeArms
import GoSem.ClaimJoined
namespace Go.D
set_option linter.unusedSimpArgs false
set_option linter.unusedVariables false

/-- a type, with the bytes of its slices' elements -/
inductive Gd where
  | int (k : IntKind) | bool | str | unit
  | pair (a b : Gd)
  | arr (n : Nat) (g : Gd)
  | sl (bytes : Nat) (g : Gd)
  deriving DecidableEq, Inhabited
@[reducible] def Gd.ty : Gd → Ty
  | .int k => .int k
  | .bool => .bool
  | .str => .str
  | .unit => .unit
  | .pair a b => .pair a.ty b.ty
  | .arr n g => .arr n g.ty
  | .sl _ g => .sl g.ty
/-- the bounds that whatever is handed in keeps -/
def good : (g : Gd) → g.ty.den → Prop
  | .int k, n => (Lit.int k n).wf = true
  | .bool, _ => True
  | .str, s => ByteArray.size s ≤ reachBytes
  | .unit, _ => True
  | .pair a b, x => good a x.1 ∧ good b x.2
  | .arr n g, xs => List.length xs = n ∧ ∀ y : g.ty.den, List.Mem y xs → good g y
  | .sl by_ g, xs => List.length xs * by_ ≤ reachBytes ∧ ∀ y : g.ty.den, List.Mem y xs → good g y

def fieldsAs (f : TypeId → Gd → Bool) : Nat → List Field → Gd → Bool
  | _, [], .unit => true
  | off, fd :: r, .pair a b => fd.offset == off && f fd.type a && fieldsAs f (off + a.ty.size) r b
  | _, _, _ => false
def laidAs (P : Program) : Nat → TypeId → Gd → Bool
  | 0, _, _ => false
  | n + 1, t, g => P.cellsOf t == g.ty.size && match P.underlying t, g with
    | some .bool, .bool => true
    | some (.int k), .int k' => k == k'
    | some .string, .str => true
    | some (.slice e), .sl by_ g => P.bytesOf e == by_ && g.ty.size != 0 && laidAs P n e g
    | some (.array m e), .arr m' g => m == m' && laidAs P n e g
    | some (.struct fs), g => fieldsAs (laidAs P n) 0 fs.toList g
    | _, _ => false

variable {P : Program} {w : World} {H : Type} {enc : TypeId × Value → H}

theorem build_list {α : Type} {R : α → List Value → List Nat → Prop} {G : α → Prop} {f : Nat → List Value} : ∀ (n : Nat), (∀ i, i < n → ∃ x, R x (f i) [] ∧ G x) → ∃ xs : List α, xs.length = n ∧ RelL R xs ((List.range n).flatMap f) [] ∧ ∀ x ∈ xs, G x
  | 0, _ => ⟨[], rfl, by simpa using RelL.nil, by simp⟩
  | n + 1, h => by
    obtain ⟨xs, h1, h2, h3⟩ := build_list n fun i hi => h i (by omega)
    obtain ⟨x, h4, h5⟩ := h n (by omega)
    refine ⟨xs ++ [x], by simp [h1], ?_, fun y hy => ?_⟩
    · rw [List.range_succ, List.flatMap_append]
      simpa using h2.append (RelL.one h4)
    · rcases List.mem_append.1 hy with hy | hy
      · exact h3 y hy
      · simp at hy; subst hy; exact h5
theorem flatMap_at {f : Nat → List Value} {sz : Nat} : ∀ (n : Nat), (∀ i, i < n → (f i).length = sz) → ∀ (j : Nat) (v : Value), ((List.range n).flatMap f)[j]? = some v → ∃ i r, i < n ∧ j = i * sz + r ∧ (f i)[r]? = some v
  | 0, _, j, v, h => by simp at h
  | n + 1, hf, j, v, h => by
    have hl : ∀ n, (∀ i, i < n → (f i).length = sz) → ((List.range n).flatMap f).length = n * sz := by
      intro n
      induction n with
      | zero => intro _; simp
      | succ n ih => intro hf; rw [List.range_succ, List.flatMap_append]; simp [ih fun i hi => hf i (by omega), hf n (by omega), Nat.add_mul]
    rw [List.range_succ, List.flatMap_append] at h
    rcases Nat.lt_or_ge j ((List.range n).flatMap f).length with hj | hj
    · rw [List.getElem?_append_left hj] at h
      obtain ⟨i, r, h1, h2, h3⟩ := flatMap_at n (fun i hi => hf i (by omega)) j v h
      exact ⟨i, r, by omega, h2, h3⟩
    · rw [List.getElem?_append_right hj] at h
      rw [hl n fun i hi => hf i (by omega)] at h hj
      exact ⟨n, j - n * sz, by omega, by omega, by simpa using h⟩
theorem slices_of {cs : List Value} {sz : Nat} : ∀ (n : Nat), n * sz ≤ cs.length → (List.range n).flatMap (fun i => (cs.drop (i * sz)).take sz) = cs.take (n * sz)
  | 0, _ => by simp
  | n + 1, h => by
    rw [Nat.add_mul, Nat.one_mul] at h
    rw [List.range_succ, List.flatMap_append, slices_of n (by omega)]
    simp only [List.flatMap_cons, List.flatMap_nil, List.append_nil]
    rw [Nat.add_mul, Nat.one_mul, List.take_add]

theorem weightsAll_mem {e : TypeId} : ∀ (ds : List (DataW H)), (DataW.weightsAll P e ds).all (· ≤ reachBytes) = true → ∀ d ∈ ds, (d.weights P e).all (· ≤ reachBytes) = true
  | [], _, d, hd => by simp at hd
  | x :: r, h, d, hd => by
    simp only [DataW.weightsAll, List.all_append, Bool.and_eq_true] at h
    rcases List.mem_cons.1 hd with rfl | hd
    · exact h.1
    · exact weightsAll_mem r h.2 d hd
theorem weightsEach_mem : ∀ (ts : List TypeId) (ds : List (DataW H)), (DataW.weightsEach P ts ds).all (· ≤ reachBytes) = true → ∀ (i : Nat) (t : TypeId) (d : DataW H), ts[i]? = some t → ds[i]? = some d → (d.weights P t).all (· ≤ reachBytes) = true
  | [], _, _, i, t, d, h1, _ => by simp at h1
  | _ :: _, [], _, i, t, d, _, h2 => by simp at h2
  | t0 :: ts, d0 :: ds, h, i, t, d, h1, h2 => by
    simp only [DataW.weightsEach, List.all_append, Bool.and_eq_true] at h
    cases i with
    | zero =>
      simp only [List.getElem?_cons_zero, Option.some.injEq] at h1 h2
      subst h1 h2
      exact h.1
    | succ i => exact weightsEach_mem ts ds h.2 i t d (by simpa using h1) (by simpa using h2)

theorem cells?_spec {a : Addr} {n : Nat} {cs : List Value} (h : w.cells? 0 a n = some cs) : cs.length = n ∧ ∀ (j : Nat) (v : Value), cs[j]? = some v → w.cell? (a.add j) = some v := by
  unfold World.cells? at h
  rw [if_pos (Nat.zero_le _)] at h
  have key : ∀ (l : List Nat) (cs : List Value), (l.mapM fun i => w.cell? (a.add i)) = some cs → cs.length = l.length ∧ ∀ (j : Nat) (v : Value), cs[j]? = some v → ∃ i, l[j]? = some i ∧ w.cell? (a.add i) = some v := by
    intro l
    induction l with
    | nil => intro cs h; simp at h; subst h; simp
    | cons i l ih =>
      intro cs h
      simp only [List.mapM_cons, Option.bind_eq_bind, Option.bind_eq_some_iff, Option.pure_def, Option.some.injEq] at h
      obtain ⟨v0, h0, vs, h1, rfl⟩ := h
      obtain ⟨k1, k2⟩ := ih vs h1
      refine ⟨by simp [k1], fun j v hj => ?_⟩
      cases j with
      | zero => simp at hj; subst hj; exact ⟨i, rfl, h0⟩
      | succ j => exact k2 j v (by simpa using hj)
  obtain ⟨k1, k2⟩ := key _ _ h
  refine ⟨by simpa using k1, fun j v hj => ?_⟩
  obtain ⟨i, h1, h2⟩ := k2 j v hj
  have : i = j := by
    rw [List.getElem?_range (by have := (List.getElem?_eq_some_iff.1 h1).1; simpa using this)] at h1
    exact (Option.some.inj h1).symm
  rw [← this]; exact h2

def Old (w : World) : Nat → Nat → Prop := fun b _ => b < w.heap.size

theorem cell_old {b o : Nat} {v : Value} (h : w.cell? ⟨b, o, none⟩ = some v) : b < w.heap.size := by
  unfold World.cell? at h
  cases e : w.heap[b]? with
  | none => rw [e] at h; cases h
  | some x => exact (Array.getElem?_eq_some_iff.1 e).1

/-- what a reading of cells finds, as data -/
theorem trod_rel {spare : Nat → Bool} {held : Bool} : ∀ (fuel : Nat) (n : Nat) (t : TypeId) (g : Gd) (cs : List Value) (x : DataW H × List MemPlace), laidAs P n t g = true → DataW.trod enc P w 0 spare held fuel t cs = some x → (x.1.weights P t).all (· ≤ reachBytes) = true →
    ∃ y : g.ty.den, Rel (Old w) w g.ty y cs [] ∧ good g y := by
  intro fuel
  induction fuel with
  | zero => intro n t g cs x _ h; simp [DataW.trod] at h
  | succ fuel ih =>
    intro n t g cs x hl h hw
    cases n with
    | zero => simp [laidAs] at hl
    | succ n =>
      simp only [laidAs, Bool.and_eq_true, beq_iff_eq] at hl
      obtain ⟨hsz, hl⟩ := hl
      split at hl <;> try (cases hl; done)
      · rename_i hu
        obtain ⟨b, rfl, rfl⟩ := DataW.trod_bool hu h
        exact ⟨b, ⟨rfl, rfl⟩, trivial⟩
      · rename_i k k' hu
        simp only [beq_iff_eq] at hl
        subst hl
        obtain ⟨m, rfl, rfl, hwf⟩ := DataW.trod_int hu h
        exact ⟨m, ⟨rfl, rfl⟩, hwf⟩
      · rename_i hu
        obtain ⟨s, rfl, rfl, hs⟩ := DataW.trod_string hu h
        refine ⟨s, ⟨rfl, rfl⟩, ?_⟩
        simp [DataW.weights] at hw
        exact hw
      · rename_i e by_ g hu
        simp only [Bool.and_eq_true, beq_iff_eq, bne_iff_ne, ne_eq] at hl
        obtain ⟨⟨hby, hpos⟩, hl⟩ := hl
        rcases DataW.trod_slice hu h with ⟨rfl, rfl⟩ | ⟨a, len, cap, elems, rest, m, hm, rfl, rfl, _, hle, hcap, hlen, hel, _, _⟩
        · exact ⟨[], ⟨rfl, none, 0, [], rfl, Nat.le_refl _, .nil, fun h => absurd h (by simp)⟩, by simp, fun y hy => by cases hy⟩
        · obtain rfl : m = fuel := by omega
          simp only [DataW.weights, hu, List.all_cons, List.all_append, Bool.and_eq_true, decide_eq_true_eq, List.length_map] at hw
          obtain ⟨hw1, hw2, _⟩ := hw
          have hszl : P.cellsOf e = g.ty.size := by
            cases n with
            | zero => simp [laidAs] at hl
            | succ n => simp only [laidAs, Bool.and_eq_true, beq_iff_eq] at hl; exact hl.1
          have hcell : ∀ i, i < len → ∃ c : List Value, w.cells? 0 (a.add (i * P.cellsOf e)) (P.cellsOf e) = some c ∧ ∃ y : g.ty.den, Rel (Old w) w g.ty y c [] ∧ good g y := by
            intro i hi
            have := hel i hi
            rw [List.getElem?_eq_getElem (by omega)] at this
            obtain ⟨c, hc1, hc2⟩ := Option.bind_eq_some_iff.1 this
            exact ⟨c, hc1, ih n e g c _ hl hc2 (weightsAll_mem _ hw2 _ (List.mem_map.2 ⟨_, List.getElem_mem _, rfl⟩))⟩
          let f : Nat → List Value := fun i => (w.cells? 0 (a.add (i * P.cellsOf e)) (P.cellsOf e)).getD []
          have hf : ∀ i, i < len → ∃ y : g.ty.den, Rel (Old w) w g.ty y (f i) [] ∧ good g y := fun i hi => by
            obtain ⟨c, h1, h2⟩ := hcell i hi
            simp only [f, h1, Option.getD_some]
            exact h2
          obtain ⟨ys, k1, k2, k3⟩ := build_list len hf
          refine ⟨ys, ⟨rfl, some a, cap, _, by rw [k1], by rw [k1]; exact hle, k2, fun h0 => ?_⟩, ?_, fun y hy => k3 y hy⟩
          · rw [k1] at h0
            obtain ⟨c, h1, _⟩ := hcell 0 h0
            obtain ⟨q1, q2⟩ := cells?_spec h1
            have hc0 : 0 < c.length := by rw [q1, hszl]; omega
            have hspot : a.spot = none := by
              have := q2 0 c[0] (List.getElem?_eq_getElem hc0)
              simpa [Addr.add] using World.cell?_spot this
            obtain ⟨b, o, spot⟩ := a
            simp only at hspot
            subst hspot
            refine ⟨b, o, rfl, fun j v hj => ?_⟩
            obtain ⟨i, r, i1, i2, i3⟩ := flatMap_at (sz := g.ty.size) len (fun i hi => by
              obtain ⟨c, h1, _⟩ := hcell i hi
              have he := (cells?_spec h1).1
              simp only [f, h1, Option.getD_some]
              rw [he, hszl]) j v hj
            obtain ⟨c, h1, _⟩ := hcell i i1
            simp only [f, h1, Option.getD_some] at i3
            have := (cells?_spec h1).2 r v i3
            rw [addr_add, addr_add, hszl] at this
            have hcl : w.cell? ⟨b, o + j, none⟩ = some v := by rw [i2, ← Nat.add_assoc]; exact this
            exact ⟨cell_old hcl, hcl⟩
          · rw [k1, ← hby]
            exact Nat.le_trans (Nat.mul_le_mul_right _ (by rw [hlen]; omega)) hw1
      · rename_i m e m' g hu
        simp only [Bool.and_eq_true, beq_iff_eq] at hl
        obtain ⟨rfl, hl⟩ := hl
        obtain ⟨xs, fm, hfm, rfl, hlen, hxs, hel⟩ := DataW.trod_array hu h
        obtain rfl : fm = fuel := by omega
        simp only [DataW.weights, hu] at hw
        have hszl : P.cellsOf e = g.ty.size := by
          cases n with
          | zero => simp [laidAs] at hl
          | succ n => simp only [laidAs, Bool.and_eq_true, beq_iff_eq] at hl; exact hl.1
        obtain ⟨ys, k1, k2, k3⟩ := build_list (R := Rel (Old w) w g.ty) (G := good g) (f := fun i => (cs.drop (i * P.cellsOf e)).take (P.cellsOf e)) m (fun i hi => by
          have := hel i hi
          rw [List.getElem?_eq_getElem (by omega)] at this
          exact ih n e g _ _ hl this (weightsAll_mem _ hw _ (List.mem_map.2 ⟨_, List.getElem_mem _, rfl⟩)))
        have hcl : cs.length = m * P.cellsOf e := by rw [hlen, hsz, hszl]; rfl
        rw [slices_of m (by omega), ← hcl, List.take_length] at k2
        exact ⟨ys, ⟨k1, k2⟩, k1, fun y hy => k3 y hy⟩
      · rename_i g _ gd fs hu
        obtain ⟨xs, fm, hfm, rfl, hlen, hxs, hel⟩ := DataW.trod_struct hu h
        obtain rfl : fm = fuel := by omega
        simp only [DataW.weights, hu] at hw
        have key : ∀ (l : List Field) (k off : Nat) (g : Gd), fs.toList.drop k = l → fieldsAs (laidAs P n) off l g = true → off + g.ty.size ≤ cs.length → ∃ y : g.ty.den, Rel (Old w) w g.ty y ((cs.drop off).take g.ty.size) [] ∧ good g y := by
          intro l
          induction l with
          | nil =>
            intro k off g _ hg _
            cases g <;> simp [fieldsAs] at hg
            exact ⟨(), by simp [Rel, Ty.size], trivial⟩
          | cons fd l ihl =>
            intro k off g hd hg hle
            cases g <;> simp only [fieldsAs, Bool.and_eq_true, beq_iff_eq, Bool.false_eq_true] at hg
            rename_i ga gb
            obtain ⟨⟨rfl, hga⟩, hgb⟩ := hg
            have hk : fs[k]? = some fd := by
              rw [← Array.getElem?_toList]
              have := congrArg List.head? hd
              simpa [List.head?_drop] using this
            have hdl : fs.toList.drop (k + 1) = l := by
              have := congrArg List.tail hd
              simpa [List.tail_drop] using this
            have hklt : k < xs.length := by rw [hxs]; exact (Array.getElem?_eq_some_iff.1 hk).1
            have hsza : P.cellsOf fd.type = ga.ty.size := by
              cases n with
              | zero => simp [laidAs] at hga
              | succ n => simp only [laidAs, Bool.and_eq_true, beq_iff_eq] at hga; exact hga.1
            have hel' := hel k fd hk
            rw [List.getElem?_eq_getElem hklt] at hel'
            obtain ⟨ya, a1, a2⟩ := ih n fd.type ga _ _ hga hel' (weightsEach_mem _ _ hw k fd.type _ (by rw [List.getElem?_map, Array.getElem?_toList, hk]; rfl) (by rw [List.getElem?_map, List.getElem?_eq_getElem hklt]; rfl))
            have hszp : (Gd.pair ga gb).ty.size = ga.ty.size + gb.ty.size := rfl
            rw [hszp] at hle ⊢
            obtain ⟨yb, b1, b2⟩ := ihl (k + 1) (fd.offset + ga.ty.size) gb hdl hgb (by omega)
            refine ⟨(ya, yb), ⟨_, _, [], [], ?_, rfl, a1, b1⟩, a2, b2⟩
            rw [hsza, List.take_add, List.drop_drop]
        obtain ⟨y, y1, y2⟩ := key fs.toList 0 0 g rfl hl (by rw [hlen, hsz]; omega)
        refine ⟨y, ?_, y2⟩
        rw [List.drop_zero, ← hsz, ← hlen, List.take_length] at y1
        exact y1

/-- AN ARGUMENT, AS DATA. -/
theorem arg_open {n : Nat} {r : Reach} {b0 : Nat} {spare : Nat → Bool} {held : Bool} {t : TypeId} {g : Gd} {v : Value} {d : DataW H} {p : List MemPlace} (hl : laidAs P (n + 1) t g = true) (hval : Value.okWide P w r b0 t v) (hd : DataW.Trod enc P w 0 spare held t v d p)
    (hw : (d.weights P t).all (· ≤ reachBytes) = true) : ∃ x : g.ty.den, RelD (Old w) w ⟨g.ty, x⟩ v ∧ good g x := by
  obtain ⟨fuel, hf⟩ := hd
  obtain ⟨x, h1, h2⟩ := trod_rel fuel (n + 1) t g _ _ hl hf hw
  refine ⟨x, ⟨_, ?_, h1⟩, h2⟩
  simp only [laidAs, Bool.and_eq_true] at hl
  obtain ⟨hcz, hl⟩ := hl
  clear hcz
  unfold Value.okWide at hval
  have hone : Cell.okWide P w r b0 t v → v.cells.toList = [v] := fun h => by
    cases v <;> first | rfl | (exfalso; unfold Cell.okWide Cell.ok at h; cases hu : P.underlying t with
      | none => simp [hu] at h
      | some d => rw [hu] at h; cases d <;> simp at h)
  split at hl <;> try (cases hl; done)
  · rename_i hu; rw [hu] at hval; exact hone hval
  · rename_i hu; rw [hu] at hval; exact hone hval
  · rename_i hu; rw [hu] at hval; exact hone hval
  · rename_i hu; rw [hu] at hval; exact hone hval
  · rename_i hu
    rw [hu] at hval
    obtain ⟨cs, rfl, _⟩ := hval
    simp [Val, Ty.isAgg, Value.cells]
  · rename_i g _ gd fs hu
    rw [hu] at hval
    obtain ⟨cs, rfl, _⟩ := hval
    have : g.ty.isAgg = true := by
      cases hfs : fs.toList with
      | nil => rw [hfs] at hl; cases g <;> simp [fieldsAs] at hl; rfl
      | cons a l => rw [hfs] at hl; cases g <;> simp [fieldsAs] at hl; rfl
    simp [Val, this, Value.cells]
end Go.D
