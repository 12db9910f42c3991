/- The abstract machine D, part R: regions whose operations are done in any order. -/
import Derived.Test.YtmdnddoiopgboaaDoorDQ
namespace Go.D
set_option linter.unusedSimpArgs false
set_option linter.unusedVariables false

variable {F F' : Nat → Nat → Prop} {w w' w2 : World} {P : Program} {st st' : St} {L L' : Nat → RLoc} {B B' : Nat → List Nat} {B0 : Base} {F0 : Nat → Nat → Prop} {w0 : World}
variable {fr : List DV} {a : Act} {C : Cfg} {env : Env}

/-! ### A step hangs on its operands alone -/
theorem dop_congr {o : Oper} {rv rv' : Operand → RV} (h : ∀ x ∈ o.op.operands, rv x = rv' x) : dop P C env o rv = dop P C env o rv' := by
  have parts : ∀ ps : Array (Nat × Operand), (∀ x ∈ (ps.toList.map (·.2)).toArray, rv x = rv' x) → (ps.toList.map fun (i, x) => (i, rv x)) = ps.toList.map fun (i, x) => (i, rv' x) := fun ps hp =>
    List.map_congr_left fun p hm => by
      obtain ⟨i, x⟩ := p
      simp only
      rw [hp x (by simp; exact ⟨i, by simpa using hm⟩)]
  have args : ∀ c : Call, (∀ x ∈ c.operands, rv x = rv' x) → c.args.toList.map rv = c.args.toList.map rv' := fun c hp =>
    List.map_congr_left fun x hm => hp x (by simp [Call.operands]; exact .inr (by simpa using hm))
  have bnd : ∀ (b : Option Operand) d, (∀ x ∈ b.toArray, rv x = rv' x) → bndOf rv b d = bndOf rv' b d := fun b d hb => by
    cases b with
    | none => rfl
    | some y => simp only [bndOf]; rw [hb y (by simp)]
  unfold dop
  cases ho : o.op <;> simp only [ho, Op.operands] at h ⊢
  case build T ps => simp only [parts ps h]
  case buildSlice T n ps => simp only [parts ps h]
  case slice T x lo hi mx =>
    have hx := h x (by simp)
    have hl := fun d => bnd lo d fun y hy => h y (by simp at hy ⊢; simp [hy])
    have hh := fun d => bnd hi d fun y hy => h y (by simp at hy ⊢; simp [hy])
    simp only [hx, hl, hh]
  case call c =>
    have hargs := args c h
    obtain ⟨callee, as, ts⟩ := c
    cases callee with
    | builtin b => simp only [hargs]
    | invoke r n => rfl
    | value f => cases f <;> first | rfl | simp only [hargs]
  all_goals first
    | rfl
    | (have h1 := h _ (by simp; exact .inl rfl); have h2 := h _ (by simp; exact .inr (.inl rfl)); have h3 := h _ (by simp; exact .inr (.inr rfl)); simp only [h1, h2, h3])
    | (have h1 := h _ (by simp; exact .inl rfl); have h2 := h _ (by simp; exact .inr rfl); simp only [h1, h2])
    | (have h1 := h _ (by simp; rfl); simp only [h1])

/-! ### What a step does to the state -/
structure Move where
  f : List (Nat × Bool)
  v : DV
  l : List (Nat × DObj)
/-- does a value speak of an object? (of its insides, where the mark is false) -/
def hit (p : Nat × Bool) (d : DV) : Bool := if p.2 then d.key == some p.1 else d.bent == some p.1
def forgetO (fs : List (Nat × Bool)) (d : DV) : DV := if fs.any (fun p => hit p d) then .any else d
theorem hit_keys {p : Nat × Bool} {d : DV} (h : hit p d = true) : p.1 ∈ d.keys := by
  obtain ⟨k, b⟩ := p
  cases b <;> cases d <;> simp [hit, DV.key, DV.bent, DV.keys] at h ⊢ <;> exact h.symm
theorem forgetO_nil : forgetO [] = id := by funext d; rfl
theorem forget_eq (k : Nat) (d : DV) : forget k d = if d.key = some k then .any else d := by
  cases d <;> simp [forget, DV.key]
theorem forget_O (k : Nat) : forget k = forgetO [(k, true)] := by
  funext d
  rw [forget_eq, forgetO]
  simp [hit]
theorem dim_O (ks : List Nat) : dim ks = forgetO (ks.map fun k => (k, false)) := by
  funext d
  have h : ∀ j : Nat, ((ks.map fun k => (k, false)).any fun p => (some j : Option Nat) == some p.1) = ks.contains j := fun j => by
    rw [Bool.eq_iff_iff]
    simp
  have h0 : ((ks.map fun k => ((k, false) : Nat × Bool)).any fun p => (none : Option Nat) == some p.1) = false := by simp
  cases d <;> simp only [dim, forgetO, hit, DV.bent] <;> simp [h]
theorem forgets_O (ks : List Nat) : forgets ks = forgetO (ks.map fun k => (k, true)) := by
  funext d
  have h : ∀ j : Nat, ((ks.map fun k => (k, true)).any fun p => (some j : Option Nat) == some p.1) = ks.contains j := fun j => by
    rw [Bool.eq_iff_iff]
    simp
  have h0 : ((ks.map fun k => ((k, true) : Nat × Bool)).any fun p => (none : Option Nat) == some p.1) = false := by simp
  cases d <;> simp only [forgets, forgetO, hit, DV.key] <;> simp [h]
def act (dst : Option Tmp) (m : Move) (s : S) : S := ⟨setFr (s.fr.map (forgetO m.f)) dst m.v, putAll m.l s.st⟩

def moveOf (dst : Option Tmp) (ve : DV × Eff) : Move :=
  ⟨match ve.2 with | .mk _ ks => (dst.toList ++ ks).map fun k => (k, true) | .new _ => dst.toList.map fun d => (d, true) | .app k _ => [(k, true)] | .chg b _ => (b.map (·.1)).map fun k => (k, false) | _ => [], landed dst ve,
   match ve.2 with | .none => [] | .upd l => l | .new o => dst.toList.map fun d => (d, o) | .app k o => [(k, o)] | .chg b l => l ++ b | .mk o ks => (ks.map fun k => (k, deadObj)) ++ dst.toList.map fun d => (d, o)⟩
def effOk (dst : Option Tmp) : Eff → Bool
  | .new _ => match dst with | some d => d != pinKey | none => false
  | .mk _ ks => match dst with | some d => !(d = pinKey || ks.contains d) | none => false
  | _ => true
theorem apply_eq (dst : Option Tmp) (ve : DV × Eff) (s : S) : apply dst s ve = if effOk dst ve.2 then some (act dst (moveOf dst ve) s) else none := by
  obtain ⟨v, e⟩ := ve
  have hid : ∀ l : List DV, l.map (forgetO []) = l := fun l => by
    rw [forgetO_nil, List.map_id]
  cases e with
  | none => simp [apply, effOk, act, moveOf, landed, hid, putAll]
  | upd l => simp [apply, effOk, act, moveOf, landed, hid]
  | new o =>
    cases dst with
    | none => rfl
    | some d =>
      by_cases hd : d = pinKey
      · simp [apply, effOk, hd]
      · simp [apply, effOk, act, moveOf, landed, setFr, putAll, forget_O, hd]
  | app k o => simp [apply, effOk, act, moveOf, landed, putAll, forget_O]
  | chg b l => simp only [apply, effOk, act, moveOf, landed, dim_O, if_true]
  | mk o ks =>
    cases dst with
    | none => rfl
    | some d =>
      simp only [apply, effOk, act, moveOf, landed, setFr, forgets_O, putAll_append, Option.toList, Option.getD_some, List.map_cons, List.map_nil, List.singleton_append]
      by_cases h : (decide (d = pinKey) || ks.contains d) = true
      · rw [if_pos h, if_neg (by simp only [h]; simp)]
      · rw [if_neg h, if_pos (by simp only [h]; rfl)]
        rfl
theorem moveOf_keys (dst : Option Tmp) (ve : DV × Eff) : (moveOf dst ve).l.map (·.1) = written dst ve.2 := by
  obtain ⟨v, e⟩ := ve
  cases e <;> simp [moveOf, written]
  · cases dst <;> simp
  · have h1 : ∀ {β : Type} (y : β) (l : List Nat), List.map ((fun x : Nat × β => x.1) ∘ fun k => (k, y)) l = l := fun y l => by
      rw [show ((fun x : Nat × _ => x.1) ∘ fun k => (k, y)) = id from rfl, List.map_id]
    rw [h1, h1]
theorem moveOf_f (dst : Option Tmp) (ve : DV × Eff) : ∀ p ∈ (moveOf dst ve).f, p.1 ∈ written dst ve.2 := by
  obtain ⟨v, e⟩ := ve
  cases e <;> simp [moveOf, written]
  · intro a b c hc e
    subst e
    exact .inr ⟨_, hc⟩
  · exact fun a h => h.symm

def stepM (P : Program) (C : Cfg) (env : Env) (ops : Array Oper) (i : Nat) (o : Oper) (s : S) : Option (Did × Move) :=
  (wantV ops o s).bind fun yes =>
    if yes then (dop P C env o (fun x => resolve s.st (dval s.fr x))).val.bind fun ve =>
      if effOk o.dst ve.2 then some (didOf i o s.fr ve, moveOf o.dst ve) else none
    else some (⟨i, touched o s.fr, [], [], []⟩, ⟨[], .und, []⟩)
theorem stepV_eq {ops : Array Oper} {i : Nat} {o : Oper} {s : S} : stepV P C env ops i o s = (stepM P C env ops i o s).map fun p => (p.1, act o.dst p.2 s) := by
  unfold stepV stepM
  cases wantV ops o s with
  | none => rfl
  | some y =>
    cases y
    · have hid : s.fr.map (forgetO []) = s.fr := by
        rw [forgetO_nil, List.map_id]
      simp [act, hid, putAll]
    · simp only [Option.bind_some, if_true]
      cases (dop P C env o fun x => resolve s.st (dval s.fr x)).val with
      | none => rfl
      | some ve =>
        simp only [Option.bind_some, apply_eq]
        split <;> rfl
structure StepOk (d : Did) (m : Move) (i : Nat) (o : Oper) (s : S) : Prop where
  i : d.i = i
  keys : m.l.map (·.1) = d.w
  f : ∀ p ∈ m.f, p.1 ∈ d.w
  g : ∀ p ∈ m.f, p.2 = true → p.1 ∈ d.g
  v : (∀ k ∈ m.v.keys, k ∈ d.t) ∨ ∃ k, m.v = .ref k ∧ k ∈ d.n
  t : (∀ k ∈ touched o s.fr, k ∈ d.t) ∨ ∃ k, nameOf o s.fr = some k ∧ k ∈ d.n
theorem moveOf_g (dst : Option Tmp) (ve : DV × Eff) : ∀ p ∈ (moveOf dst ve).f, p.2 = true → p.1 ∈ whole dst ve.2 := by
  obtain ⟨v, e⟩ := ve
  cases e <;> simp [moveOf, whole]
  exact fun a h => h.symm
/-- an object's name, handed on -/
theorem nameOf_open {o : Oper} {fr : List DV} {k : Nat} (h : nameOf o fr = some k) : ∃ t, (o.op = .move (.tmp t) ∨ o.op = .assign (.tmp t)) ∧ fr.getD t .any = .ref k := by
  have hc : ∀ x : Operand, (match dval fr x with | .ref k => some k | _ => none) = some k → ∃ t, x = .tmp t ∧ fr.getD t .any = .ref k := by
    intro x hx
    split at hx <;> try (cases hx; done)
    rename_i j e
    cases hx
    cases x with
    | tmp t => exact ⟨t, rfl, e⟩
    | const v => cases v <;> simp [dval, constV] at e <;> split at e <;> cases e
    | global g =>
      simp only [dval] at e
      split at e <;> cases e
    | _ => simp [dval] at e
  unfold nameOf at h
  split at h <;> try (cases h; done)
  · rename_i x ho
    obtain ⟨t, rfl, e⟩ := hc x h
    exact ⟨t, .inl ho, e⟩
  · rename_i x ho
    obtain ⟨t, rfl, e⟩ := hc x h
    exact ⟨t, .inr ho, e⟩
theorem nameOf_dop {o : Oper} {s : S} {k : Nat} (h : nameOf o s.fr = some k) : dop P C env o (fun x => resolve s.st (dval s.fr x)) = .ret (.ref k, .none) := by
  obtain ⟨t, ho, e⟩ := nameOf_open h
  have hr : (resolve s.st (dval s.fr (.tmp t))).dv = .ref k := by
    simp only [dval, e, resolve]
    split <;> rfl
  rcases ho with ho | ho <;> simp only [dop, ho, hr]
theorem stepM_ok {ops : Array Oper} {i : Nat} {o : Oper} {s : S} {d : Did} {m : Move} (h : stepM P C env ops i o s = some (d, m)) : StepOk d m i o s := by
  unfold stepM at h
  obtain ⟨y, _, h⟩ := Option.bind_eq_some_iff.1 h
  cases y
  · simp at h
    obtain ⟨rfl, rfl⟩ := h
    exact ⟨rfl, rfl, by simp, by simp, .inl (by simp [DV.keys]), .inl fun _ h => h⟩
  · simp only [if_true] at h
    obtain ⟨ve, hve, h⟩ := Option.bind_eq_some_iff.1 h
    split at h <;> try (cases h; done)
    cases h
    cases hn : nameOf o s.fr with
    | none =>
      have e : didOf i o s.fr ve = ⟨i, touched o s.fr ++ (landed o.dst ve).keys, written o.dst ve.2, [], whole o.dst ve.2⟩ := by unfold didOf; rw [hn]
      rw [e]
      exact ⟨rfl, moveOf_keys _ _, moveOf_f _ _, moveOf_g _ _, .inl fun k hk => by simp only [List.mem_append]; exact .inr hk, .inl fun k hk => by simp only [List.mem_append]; exact .inl hk⟩
    | some k =>
      have e : didOf i o s.fr ve = ⟨i, [], written o.dst ve.2, [k], whole o.dst ve.2⟩ := by unfold didOf; rw [hn]
      rw [nameOf_dop hn, Cmd.val_ret] at hve
      cases hve
      rw [e]
      exact ⟨rfl, moveOf_keys _ _, moveOf_f _ _, moveOf_g _ _, .inr ⟨k, rfl, by simp⟩, .inr ⟨k, hn, by simp⟩⟩

/-! ### States that are alike -/
structure Eqv (s t : S) : Prop where
  fr : s.fr = t.fr
  st : ∀ k, s.st.get k = t.st.get k
theorem Eqv.refl (s : S) : Eqv s s := ⟨rfl, fun _ => rfl⟩
theorem Eqv.trans {s t u : S} (h : Eqv s t) (k : Eqv t u) : Eqv s u := ⟨h.fr.trans k.fr, fun i => (h.st i).trans (k.st i)⟩
theorem Eqv.symm {s t : S} (h : Eqv s t) : Eqv t s := ⟨h.fr.symm, fun i => (h.st i).symm⟩
theorem get_putAll_not : ∀ (l : List (Nat × DObj)) (st : St) (k : Nat), k ∉ l.map (·.1) → (putAll l st).get k = st.get k
  | [], _, _, _ => rfl
  | (j, o) :: l, st, k, h => by
    simp at h
    simp only [putAll]
    rw [get_putAll_not l _ k (by simpa using h.2), get_put_other _ h.1]
theorem get_putAll_congr : ∀ (l : List (Nat × DObj)) (st st' : St) (k : Nat), (st.get k = st'.get k ∨ k ∈ l.map (·.1)) → (putAll l st).get k = (putAll l st').get k
  | [], st, st', k, h => by simpa [putAll] using h
  | (j, o) :: l, st, st', k, h => by
    simp only [putAll]
    refine get_putAll_congr l _ _ k ?_
    by_cases e : k = j
    · subst e; exact .inl (by rw [get_put_same, get_put_same])
    · rw [get_put_other _ e, get_put_other _ e]
      rcases h with h | h
      · exact .inl h
      · simp [e] at h; exact .inr (by simpa using h)
theorem resolve_eqv {st st' : St} {d : DV} (h : ∀ k ∈ d.keys, st.get k = st'.get k) : resolve st d = resolve st' d := by
  cases d <;> simp only [resolve] <;> simp [DV.keys] at h <;> rw [h]
theorem Eqv.act {s t : S} (h : Eqv s t) (dst : Option Tmp) (m : Move) : Eqv (act dst m s) (act dst m t) :=
  ⟨by simp only [D.act, h.fr], fun k => get_putAll_congr _ _ _ k (.inl (h.st k))⟩

theorem nameOf_congr {o : Oper} {f g : List DV} (h : ∀ x ∈ o.op.operands, dval f x = dval g x) : nameOf o f = nameOf o g := by
  unfold nameOf
  cases ho : o.op <;> simp only [ho, Op.operands] at h ⊢
  all_goals (have h1 := h _ (by simp; rfl); simp only [h1])
theorem stepM_congr' {ops : Array Oper} {i : Nat} {o : Oper} {s t : S} (hw : wantV ops o s = wantV ops o t) (hd : ∀ x ∈ o.op.operands, dval s.fr x = dval t.fr x) (h1 : dop P C env o (fun x => resolve s.st (dval s.fr x)) = dop P C env o (fun x => resolve t.st (dval t.fr x))) :
    stepM P C env ops i o s = stepM P C env ops i o t := by
  have h2 : touched o s.fr = touched o t.fr := by
    unfold touched
    have : ∀ l : List Operand, (∀ x ∈ l, dval s.fr x = dval t.fr x) → (l.flatMap fun x => (dval s.fr x).keys) = l.flatMap fun x => (dval t.fr x).keys := by
      intro l
      induction l with
      | nil => intro _; rfl
      | cons x l ih => intro h; simp only [List.flatMap_cons, h x (by simp), ih fun y hy => h y (by simp [hy])]
    exact this _ fun x hx => hd x (by simpa using hx)
  have h3 := nameOf_congr hd
  unfold stepM didOf
  rw [hw, h1, h2, h3]
theorem stepM_congr {ops : Array Oper} {i : Nat} {o : Oper} {s t : S} (hw : wantV ops o s = wantV ops o t) (hd : ∀ x ∈ o.op.operands, dval s.fr x = dval t.fr x) (hr : ∀ x ∈ o.op.operands, resolve s.st (dval s.fr x) = resolve t.st (dval t.fr x)) :
    stepM P C env ops i o s = stepM P C env ops i o t :=
  stepM_congr' hw hd (dop_congr (P := P) (C := C) (env := env) hr)
theorem stepM_eqv {ops : Array Oper} {i : Nat} {o : Oper} {s t : S} (h : Eqv s t) : stepM P C env ops i o s = stepM P C env ops i o t :=
  stepM_congr (by unfold wantV; rw [h.fr]) (fun x _ => by rw [h.fr]) (fun x _ => by rw [h.fr]; exact resolve_eqv fun k _ => h.st k)

/-! ### Two steps that are free of each other -/
theorem getD_act {dst : Option Tmp} {m : Move} {s : S} {t : Nat} (h : dst ≠ some t) : (act dst m s).fr.getD t .any = forgetO m.f (s.fr.getD t .any) := by
  have hf : forgetO m.f .any = .any := by unfold forgetO; split <;> rfl
  have : ∀ l : List DV, (l.map (forgetO m.f)).getD t .any = forgetO m.f (l.getD t .any) := fun l => by
    rw [List.getD_eq_getElem?_getD, List.getD_eq_getElem?_getD, List.getElem?_map]
    cases l[t]? <;> simp [hf]
  cases dst with
  | none => exact this _
  | some d =>
    have hne : d ≠ t := fun e => h (by rw [e])
    simp only [act, setFr]
    rw [List.getD_eq_getElem?_getD, List.getElem?_set_ne hne, ← List.getD_eq_getElem?_getD]
    exact this _
theorem forgetO_cases (f : List (Nat × Bool)) (d : DV) : forgetO f d = d ∨ forgetO f d = .any := by
  unfold forgetO
  split
  · exact .inr rfl
  · exact .inl rfl
theorem forgetO_id {f : List (Nat × Bool)} {d : DV} (h : ∀ p ∈ f, p.1 ∉ d.keys) : forgetO f d = d := by
  unfold forgetO
  rw [if_neg]
  intro h'
  obtain ⟨p, hp, hh⟩ := List.any_eq_true.1 h'
  exact h p hp (hit_keys hh)

theorem looks_op {ops : Array Oper} {o : Oper} {t : Nat} (h : Operand.tmp t ∈ o.op.operands) : t ∈ o.looksAt ops := by
  unfold Oper.looksAt
  exact List.mem_append_left _ (List.mem_filterMap.2 ⟨.tmp t, by simpa using h, rfl⟩)
theorem looks_guard {ops : Array Oper} {o : Oper} {j : Nat} {b : Bool} {t : Nat} (hg : o.guard = some (j, b)) (h : (ops[j]?).bind (·.dst) = some t) : t ∈ o.looksAt ops := by
  unfold Oper.looksAt
  rw [hg]
  simp [h]

theorem dval_keys {o : Oper} {fr : List DV} {x : Operand} (hx : x ∈ o.op.operands) {k : Nat} (hk : k ∈ (dval fr x).keys) : k ∈ touched o fr :=
  List.mem_flatMap.2 ⟨x, by simpa using hx, hk⟩

/-- an operation's operands are the same ahead of and behind another step that is apart from it -/
theorem same_back {ops : Array Oper} {o : Oper} {s : S} {dst : Option Tmp} {m : Move} (hl : ∀ d, dst = some d → d ∉ o.looksAt ops) (hk : known o (act dst m s).fr = true) : ∀ x ∈ o.op.operands, dval (act dst m s).fr x = dval s.fr x := by
  intro x hx
  cases x with
  | tmp t =>
    have hne : dst ≠ some t := fun e => hl t e (looks_op hx)
    simp only [dval]
    have hkt := List.all_eq_true.1 hk (.tmp t) (by simpa using hx)
    simp only at hkt
    rw [getD_act hne] at hkt ⊢
    rcases forgetO_cases m.f (s.fr.getD t .any) with e | e
    · exact e
    · rw [e] at hkt; cases hkt
  | _ => rfl
theorem same_on {ops : Array Oper} {o : Oper} {s : S} {dst : Option Tmp} {m : Move} {W : List Nat} (hl : ∀ d, dst = some d → d ∉ o.looksAt ops) (hf : ∀ p ∈ m.f, p.1 ∈ W) (hd : ∀ k ∈ touched o s.fr, k ∉ W) : ∀ x ∈ o.op.operands, dval (act dst m s).fr x = dval s.fr x := by
  intro x hx
  cases x with
  | tmp t =>
    have hne : dst ≠ some t := fun e => hl t e (looks_op hx)
    simp only [dval]
    rw [getD_act hne]
    exact forgetO_id fun p hp hm => hd p.1 (dval_keys hx hm) (hf p hp)
  | _ => rfl
def guardB (want : Bool) : DV → Option Bool
  | .data ⟨.bool, b⟩ => some (b == want)
  | .und => some false
  | _ => none
theorem guardB_forget (want : Bool) (f : List (Nat × Bool)) (d : DV) : guardB want (forgetO f d) = guardB want d := by
  unfold forgetO
  split
  · rename_i h
    obtain ⟨p, hp, hh⟩ := List.any_eq_true.1 h
    have := hit_keys hh
    cases d <;> simp [DV.keys] at this <;> rfl
  · rfl
theorem wantV_eq {ops : Array Oper} {o : Oper} {s : S} : wantV ops o s = match o.guard with
    | none => some true
    | some (j, want) => match (ops[j]?).bind (·.dst) with
      | some d => guardB want (s.fr.getD d .any)
      | none => none := by
  unfold wantV guardB
  cases o.guard <;> rfl
theorem wantV_act {ops : Array Oper} {o : Oper} {s : S} {dst : Option Tmp} {m : Move} (hl : ∀ d, dst = some d → d ∉ o.looksAt ops) : wantV ops o (act dst m s) = wantV ops o s := by
  rw [wantV_eq, wantV_eq]
  cases hg : o.guard with
  | none => rfl
  | some p =>
    obtain ⟨j, want⟩ := p
    simp only
    cases hd : (ops[j]?).bind (·.dst) with
    | none => rfl
    | some t =>
      simp only
      have hne : dst ≠ some t := fun e => hl t e (looks_guard hg hd)
      rw [getD_act hne, guardB_forget]

theorem known_congr {o : Oper} {f g : List DV} (h : ∀ x ∈ o.op.operands, dval f x = dval g x) : known o f = known o g := by
  unfold known
  have : ∀ l : List Operand, (∀ x ∈ l, dval f x = dval g x) → (l.all fun x => match x with | .tmp t => (match f.getD t .any with | .any => false | _ => true) | _ => true) = l.all fun x => match x with | .tmp t => (match g.getD t .any with | .any => false | _ => true) | _ => true := by
    intro l
    induction l with
    | nil => intro _; rfl
    | cons x l ih =>
      intro h
      simp only [List.all_cons, ih fun y hy => h y (by simp [hy])]
      congr 1
      have := h x (by simp)
      cases x <;> simp only [dval] at this ⊢
      rw [this]
  exact this _ fun x hx => h x (by simpa using hx)
theorem touched_congr {o : Oper} {f g : List DV} (h : ∀ x ∈ o.op.operands, dval f x = dval g x) : touched o f = touched o g := by
  unfold touched
  have : ∀ l : List Operand, (∀ x ∈ l, dval f x = dval g x) → (l.flatMap fun x => (dval f x).keys) = l.flatMap fun x => (dval g x).keys := by
    intro l
    induction l with
    | nil => intro _; rfl
    | cons x l ih => intro h; simp only [List.flatMap_cons, h x (by simp), ih fun y hy => h y (by simp [hy])]
  exact this _ fun x hx => h x (by simpa using hx)

theorem res_act {o : Oper} {s : S} {dst : Option Tmp} {m : Move} {W : List Nat} (hs : ∀ x ∈ o.op.operands, dval (act dst m s).fr x = dval s.fr x) (hk : m.l.map (·.1) = W) (hd : ∀ k ∈ touched o s.fr, k ∉ W) :
    ∀ x ∈ o.op.operands, resolve (act dst m s).st (dval (act dst m s).fr x) = resolve s.st (dval s.fr x) := by
  intro x hx
  rw [hs x hx]
  exact resolve_eqv fun k hkk => get_putAll_not _ _ _ (by rw [hk]; exact hd k (dval_keys hx hkk))

theorem forgetO_comm (f g : List (Nat × Bool)) (d : DV) : forgetO f (forgetO g d) = forgetO g (forgetO f d) := by
  have ha : ∀ f, forgetO f .any = .any := fun f => by unfold forgetO; split <;> rfl
  rcases forgetO_cases f d with h1 | h1 <;> rcases forgetO_cases g d with h2 | h2 <;> simp only [h1, h2, ha]

theorem act_comm {s : S} {d1 d2 : Option Tmp} {m1 m2 : Move} {W1 W2 : List Nat} (hne : ∀ d, d1 = some d → d2 ≠ some d) (k1 : m1.l.map (·.1) = W1) (k2 : m2.l.map (·.1) = W2) (hw : ∀ k ∈ W1, k ∉ W2)
    (e2 : forgetO m1.f m2.v = m2.v) (e1 : forgetO m2.f m1.v = m1.v) : Eqv (act d2 m2 (act d1 m1 s)) (act d1 m1 (act d2 m2 s)) := by
  refine ⟨?_, fun k => ?_⟩
  · have hm : ∀ l : List DV, (l.map (forgetO m1.f)).map (forgetO m2.f) = (l.map (forgetO m2.f)).map (forgetO m1.f) := fun l => by
      rw [List.map_map, List.map_map]
      exact List.map_congr_left fun d _ => forgetO_comm _ _ _
    simp only [act]
    cases d1 with
    | none =>
      cases d2 with
      | none => simp only [setFr, hm]
      | some d2 => simp only [setFr, List.map_set, hm, e2]
    | some d1 =>
      cases d2 with
      | none => simp only [setFr, List.map_set, hm, e1]
      | some d2 =>
        have : d1 ≠ d2 := fun e => hne d1 rfl (by rw [e])
        simp only [setFr, List.map_set, hm, e1, e2]
        rw [List.set_comm _ _ this]
  · simp only [act]
    by_cases h1 : k ∈ W1
    · have h2 := hw k h1
      rw [get_putAll_not _ _ _ (by rw [k2]; exact h2)]
      exact get_putAll_congr _ _ _ k (.inr (by rw [k1]; exact h1))
    · rw [get_putAll_not m1.l (putAll m2.l s.st) k (by rw [k1]; exact h1)]
      exact get_putAll_congr _ _ _ k (.inl (get_putAll_not _ _ _ (by rw [k1]; exact h1)))

structure E where
  i : Nat
  o : Oper
  d : Did
  m : Move
structure FreeE (ops : Array Oper) (x y : E) : Prop where
  ww : ∀ k ∈ x.d.w, k ∉ y.d.w
  wt : ∀ k ∈ x.d.w, k ∉ y.d.t
  tw : ∀ k ∈ y.d.w, k ∉ x.d.t
  gn : ∀ k ∈ x.d.g, k ∉ y.d.n
  ng : ∀ k ∈ y.d.g, k ∉ x.d.n
  ap : Oper.apart ops x.o y.o = true

def Runs (P : Program) (C : Cfg) (env : Env) (ops : Array Oper) : List E → S → S → Prop
  | [], s, sf => Eqv s sf
  | e :: r, s, sf => known e.o s.fr = true ∧ stepM P C env ops e.i e.o s = some (e.d, e.m) ∧ Runs P C env ops r (act e.o.dst e.m s) sf

theorem known_eqv {o : Oper} {s t : S} (h : Eqv s t) : known o s.fr = known o t.fr := by rw [h.fr]
theorem Runs.eqv {ops : Array Oper} : ∀ (l : List E) (s t sf : S), Eqv s t → Runs P C env ops l s sf → Runs P C env ops l t sf
  | [], s, t, sf, h, hr => h.symm.trans hr
  | e :: l, s, t, sf, h, ⟨h1, h2, h3⟩ => ⟨by rw [← known_eqv h]; exact h1, by rw [← stepM_eqv h]; exact h2, Runs.eqv l _ _ _ (h.act _ _) h3⟩

theorem forgetO_ref {f : List (Nat × Bool)} {k : Nat} (h : ∀ p ∈ f, p.2 = true → p.1 ≠ k) : forgetO f (.ref k) = .ref k := by
  unfold forgetO
  rw [if_neg]
  intro h'
  obtain ⟨p, hp, hh⟩ := List.any_eq_true.1 h'
  obtain ⟨j, b⟩ := p
  cases b
  · simp [hit, DV.bent] at hh
  · refine h _ hp rfl ?_
    simp [hit, DV.key] at hh
    exact hh.symm
theorem forgetO_v {f : List (Nat × Bool)} {W G : List Nat} {v : DV} {T Nn : List Nat} (hf : ∀ p ∈ f, p.1 ∈ W) (hg : ∀ p ∈ f, p.2 = true → p.1 ∈ G) (hv : (∀ k ∈ v.keys, k ∈ T) ∨ ∃ k, v = .ref k ∧ k ∈ Nn) (hw : ∀ k ∈ W, k ∉ T) (hn : ∀ k ∈ G, k ∉ Nn) : forgetO f v = v := by
  rcases hv with hv | ⟨k, rfl, hk⟩
  · exact forgetO_id fun p hp hm => hw _ (hf p hp) (hv _ hm)
  · exact forgetO_ref fun p hp h2 e => hn _ (hg p hp h2) (by rw [e]; exact hk)
/-- the second may be done first -/
theorem Runs.swap {ops : Array Oper} {x y : E} {l : List E} {s sf : S} (hf : FreeE ops x y) (h : Runs P C env ops (x :: y :: l) s sf) : Runs P C env ops (y :: x :: l) s sf := by
  obtain ⟨kx, sx, ky, sy, hr⟩ := h
  have okx := stepM_ok sx
  have oky := stepM_ok sy
  obtain ⟨a1, a2, a3⟩ := Oper.apart_spec hf.ap
  -- y at s
  have hyb := same_back a1 ky
  have hty : touched y.o (act x.o.dst x.m s).fr = touched y.o s.fr := touched_congr hyb
  have hydop : dop P C env y.o (fun z => resolve (act x.o.dst x.m s).st (dval (act x.o.dst x.m s).fr z)) = dop P C env y.o (fun z => resolve s.st (dval s.fr z)) := by
    rcases oky.t with ht | ⟨k, hn, _⟩
    · have hyt : ∀ k ∈ touched y.o s.fr, k ∉ x.d.w := fun k hk hw => hf.wt k hw (ht k (by rw [hty]; exact hk))
      exact dop_congr (res_act (W := x.d.w) hyb okx.keys hyt)
    · rw [nameOf_dop hn, nameOf_dop (by rw [← nameOf_congr hyb]; exact hn)]
  have hyw : wantV ops y.o (act x.o.dst x.m s) = wantV ops y.o s := wantV_act a1
  have sy' : stepM P C env ops y.i y.o s = some (y.d, y.m) := by rw [← sy]; exact (stepM_congr' hyw hyb hydop).symm
  have ky' : known y.o s.fr = true := by rw [← ky]; exact (known_congr hyb).symm
  -- x behind y
  have hx : (∀ z ∈ x.o.op.operands, dval (act y.o.dst y.m s).fr z = dval s.fr z) ∧ dop P C env x.o (fun z => resolve (act y.o.dst y.m s).st (dval (act y.o.dst y.m s).fr z)) = dop P C env x.o (fun z => resolve s.st (dval s.fr z)) := by
    rcases okx.t with ht | ⟨k, hn, hkn⟩
    · have hxt : ∀ k ∈ touched x.o s.fr, k ∉ y.d.w := fun k hk hw => hf.tw k hw (ht k hk)
      have hxb : ∀ z ∈ x.o.op.operands, dval (act y.o.dst y.m s).fr z = dval s.fr z := same_on a3 oky.f hxt
      exact ⟨hxb, dop_congr (res_act (W := y.d.w) hxb oky.keys hxt)⟩
    · have hxb : ∀ z ∈ x.o.op.operands, dval (act y.o.dst y.m s).fr z = dval s.fr z := by
        obtain ⟨t, ho, e⟩ := nameOf_open hn
        intro z hz
        have hzt : z = .tmp t := by
          rcases ho with ho | ho <;> rw [ho] at hz <;> simpa [Op.operands] using hz
        subst hzt
        have hne : y.o.dst ≠ some t := fun e' => a3 t e' (looks_op hz)
        simp only [dval]
        rw [getD_act hne, e]
        exact forgetO_ref fun p hp h2 e' => hf.ng _ (oky.g p hp h2) (by rw [e']; exact hkn)
      exact ⟨hxb, by rw [nameOf_dop hn, nameOf_dop (by rw [nameOf_congr hxb]; exact hn)]⟩
  obtain ⟨hxb, hxdop⟩ := hx
  have hxw : wantV ops x.o (act y.o.dst y.m s) = wantV ops x.o s := wantV_act a3
  have sx' : stepM P C env ops x.i x.o (act y.o.dst y.m s) = some (x.d, x.m) := by rw [← sx]; exact stepM_congr' hxw hxb hxdop
  have kx' : known x.o (act y.o.dst y.m s).fr = true := by rw [← kx]; exact known_congr hxb
  exact ⟨ky', sy', kx', sx', Runs.eqv l _ _ _ (act_comm a2 okx.keys oky.keys hf.ww (forgetO_v okx.f okx.g oky.v hf.wt hf.gn) (forgetO_v oky.f oky.g okx.v hf.tw hf.ng)) hr⟩
theorem Runs.front {ops : Array Oper} {y : E} : ∀ (l1 l2 : List E) (s sf : S), (∀ x ∈ l1, FreeE ops x y) → Runs P C env ops (l1 ++ y :: l2) s sf → Runs P C env ops (y :: (l1 ++ l2)) s sf
  | [], l2, s, sf, _, h => h
  | x :: l1, l2, s, sf, hf, h => by
    obtain ⟨kx, sx, hr⟩ := h
    exact Runs.swap (hf x (by simp)) ⟨kx, sx, Runs.front l1 l2 _ _ (fun z hz => hf z (by simp [hz])) hr⟩

/-! ### The masks -/
theorem bits_spec : ∀ (es : List Edge) (acc : Array Nat) (j : Nat), (bits es acc).testBit j = true → ∃ e ∈ es, Region.binds .any e = true ∧ (j = e.on ∨ (acc.getD e.on 0).testBit j = true)
  | [], acc, j, h => by simp [bits] at h
  | e :: es, acc, j, h => by
    simp only [bits] at h
    split at h
    · rename_i hb
      simp only [Nat.testBit_or, Bool.or_eq_true] at h
      rcases h with (h | h) | h
      · refine ⟨e, by simp, hb, .inl ?_⟩
        rw [Nat.testBit_two_pow] at h
        have := of_decide_eq_true h
        omega
      · exact ⟨e, by simp, hb, .inr h⟩
      · obtain ⟨e', h1, h2, h3⟩ := bits_spec es acc j h
        exact ⟨e', by simp [h1], h2, h3⟩
    · obtain ⟨e', h1, h2, h3⟩ := bits_spec es acc j h
      exact ⟨e', by simp [h1], h2, h3⟩
theorem masks_keep : ∀ (l : List Oper) (acc : Array Nat) (i : Nat), i < acc.size → (masks l acc).getD i 0 = acc.getD i 0
  | [], acc, i, h => rfl
  | o :: l, acc, i, h => by
    simp only [masks]
    rw [masks_keep l _ i (by simp; omega), Array.getD_eq_getD_getElem?, Array.getD_eq_getD_getElem?, Array.getElem?_push, if_neg (by omega)]
theorem masks_spec (l : List Oper) : ∀ (acc : Array Nat) (i : Nat) (o : Oper) (j : Nat), l[i]? = some o → ((masks l acc).getD (acc.size + i) 0).testBit j = true →
    ∃ e ∈ o.after.toList, Region.binds .any e = true ∧ (j = e.on ∨ (e.on < acc.size + i ∧ ((masks l acc).getD e.on 0).testBit j = true)) := by
  induction l with
  | nil => intro acc i o j h; simp at h
  | cons o l ih =>
    intro acc i o' j h hb
    cases i with
    | zero =>
      simp only [List.getElem?_cons_zero, Option.some.injEq] at h
      subst h
      simp only [masks, Nat.add_zero] at hb ⊢
      rw [masks_keep l _ acc.size (by simp), Array.getD_eq_getD_getElem?, Array.getElem?_push, if_pos rfl] at hb
      simp only [Option.getD_some] at hb
      obtain ⟨e, h1, h2, h3⟩ := bits_spec _ _ _ hb
      refine ⟨e, h1, h2, h3.imp_right fun h3 => ?_⟩
      have hlt : e.on < acc.size := by
        rcases Nat.lt_or_ge e.on acc.size with h | h
        · exact h
        · rw [Array.getD_eq_getD_getElem?, Array.getElem?_eq_none h] at h3; simp at h3
      refine ⟨hlt, ?_⟩
      rw [masks_keep l _ _ (by simp; omega), Array.getD_eq_getD_getElem?, Array.getElem?_push, if_neg (by omega), ← Array.getD_eq_getD_getElem?]
      exact h3
    | succ i =>
      simp only [masks] at hb ⊢
      have hsz : (acc.push (bits o.after.toList acc)).size + i = acc.size + (i + 1) := by simp; omega
      have := ih (acc.push (bits o.after.toList acc)) i o' j (by simpa using h) (by rw [hsz]; exact hb)
      rw [hsz] at this
      exact this

/-! ### Any order -/
structure Inv (ops : Array Oper) (bf : Array Nat) (l : List E) (listed : Array Bool) : Prop where
  at_ : ∀ e ∈ l, ops[e.i]? = some e.o
  edge : ∀ e ∈ l, ∀ ed ∈ e.o.after.toList, Region.binds .any ed = true → ed.on < e.i
  ord : l.Pairwise fun x y => x.i < y.i
  pair : l.Pairwise fun x y => (bf.getD y.i 0).testBit x.i = true ∨ FreeE ops x y
  size : listed.size = ops.size
  un : ∀ i, i < ops.size → (listed.getD i true = false ↔ i ∈ l.map (·.i))
  down : ∀ i, i < ops.size → i ∉ l.map (·.i) → ∀ j, (bf.getD i 0).testBit j = true → j ∉ l.map (·.i)
  all : ∀ (i : Nat) (o : Oper), ops[i]? = some o → ∀ ed ∈ o.after.toList, Region.binds .any ed = true → ed.on < i

theorem listed_of {ops : Array Oper} {bf : Array Nat} {l : List E} {listed : Array Bool} (h : Inv ops bf l listed) {i : Nat} (hi : i < ops.size) : listed.getD i false = true ↔ i ∉ l.map (·.i) := by
  have h1 := h.un i hi
  have h2 : i < listed.size := by rw [h.size]; exact hi
  have e : ∀ b, listed.getD i b = listed[i] := fun b => by rw [Array.getD_eq_getD_getElem?, Array.getElem?_eq_getElem h2]; rfl
  rw [e] at h1 ⊢
  rw [← h1]
  simp

theorem any_wp {ops : Array Oper} {Q : Exit → Act → World → Prop} {sf : S} (hE : EnvOk P env) (hQ : ∀ a w, Abs B0 F0 w0 sf a w → Q .normal a w) :
    ∀ (fuel : Nat) (l : List E) (listed : Array Bool) (s : S) (a : Act) (w : World), l.length ≤ fuel → Inv ops (masks ops.toList #[]) l listed → Runs P C env ops l s sf → Abs B0 F0 w0 s a w → wpAny P .any ops Q fuel listed a w := by
  have hend : ∀ (l : List E) (listed : Array Bool) (s : S) (a : Act) (w : World), Inv ops (masks ops.toList #[]) l listed → Runs P C env ops l s sf → Abs B0 F0 w0 s a w → Region.ready .any ops listed = [] → Q .normal a w := by
    intro l listed s a w hI hR hA hr
    cases l with
    | nil =>
      refine hQ _ _ ?_
      have he : Eqv s sf := hR
      obtain ⟨⟨F, L, B, h1, h2, h3, h4⟩, h5, h6, h7⟩ := hA
      refine ⟨⟨F, L, B, ⟨fun k ob hk => h1.obj k ob (by rw [he.st]; exact hk), fun k ob hk => h1.thaw k ob (by rw [he.st]; exact hk), fun j k hjk hj hk => h1.apart j k hjk (by rw [he.st]; exact hj) (by rw [he.st]; exact hk), h1.froz, fun k ob hk => h1.own k ob (by rw [he.st]; exact hk), fun v ob hv hg => h1.pin v ob hv (by rw [he.st]; exact hg)⟩, ⟨by rw [← he.fr]; exact h2.len, fun i d hd => ?_, h2.glob⟩, h3, h4⟩, h5, h6, h7⟩
      rw [← he.fr] at hd
      have hr := h2.rel i d hd
      have hst := fun k => (he.st k).symm
      cases d <;> simp only [RelV] at hr ⊢ <;> first | exact hr | simpa only [hst] using hr
    | cons e l =>
      exfalso
      have hmem : e.i ∈ Region.ready .any ops listed := by
        rw [mem_ready]
        have hat := hI.at_ e (by simp)
        have hlt : e.i < ops.size := (Array.getElem?_eq_some_iff.1 hat).1
        refine ⟨(hI.un e.i hlt).2 (by simp), e.o, hat, fun ed hed hb => ?_⟩
        have hon := hI.edge e (by simp) ed (by simpa using hed) hb
        rw [listed_of hI (by omega)]
        intro hm
        obtain ⟨x, hx, hxe⟩ := List.mem_map.1 hm
        rcases List.mem_cons.1 hx with rfl | hx
        · omega
        · have := (List.pairwise_cons.1 hI.ord).1 x hx
          omega
      rw [hr] at hmem
      cases hmem
  intro fuel
  induction fuel with
  | zero =>
    intro l listed s a w hl hI hR hA
    have h0 : l = [] := List.length_eq_zero_iff.1 (Nat.le_zero.1 hl)
    subst h0
    have hr : Region.ready .any ops listed = [] := by
      apply List.eq_nil_iff_forall_not_mem.2
      intro i hi
      rw [mem_ready] at hi
      obtain ⟨h1, o, ho, _⟩ := hi
      have := (hI.un i (Array.getElem?_eq_some_iff.1 ho).1).1 h1
      simp at this
    exact ⟨hr, hend [] listed s a w hI hR hA hr⟩
  | succ fuel ih =>
    intro l listed s a w hl hI hR hA
    refine ⟨hend l listed s a w hI hR hA, fun i hi => ?_⟩
    rw [mem_ready] at hi
    obtain ⟨h1, o, ho, hpre⟩ := hi
    have hlt : i < ops.size := (Array.getElem?_eq_some_iff.1 ho).1
    obtain ⟨y, hy, hyi⟩ := List.mem_map.1 ((hI.un i hlt).1 h1)
    obtain ⟨l1, l2, rfl⟩ := List.append_of_mem hy
    have hyo : y.o = o := by
      have := hI.at_ y hy
      rw [hyi, ho] at this
      exact (Option.some.inj this).symm
    have hord := hI.ord
    rw [List.pairwise_append] at hord
    -- what must be ahead of i has been listed
    have hbf : ∀ j, ((masks ops.toList #[]).getD i 0).testBit j = true → j ∉ (l1 ++ y :: l2).map (·.i) := by
      intro j hj
      obtain ⟨e, e1, e2, e3⟩ := masks_spec ops.toList #[] i o j (by rw [Array.getElem?_toList]; exact ho) (by simpa using hj)
      have hon := hI.all i o ho e e1 e2
      have hl' := hpre e (by simpa using e1) e2
      have hnot := (listed_of hI (by omega)).1 hl'
      rcases e3 with rfl | ⟨_, e3⟩
      · exact hnot
      · exact hI.down e.on (by omega) hnot j e3
    have hfree : ∀ x ∈ l1, FreeE ops x y := fun x hx => by
      have hp := (List.pairwise_append.1 hI.pair).2.2 x hx y (by simp)
      refine hp.resolve_left fun hb => ?_
      rw [hyi] at hb
      exact hbf x.i hb (by simp; exact .inl ⟨x, hx, rfl⟩)
    obtain ⟨ky, sy, hR2⟩ := Runs.front l1 l2 s sf hfree hR
    have hsv : stepV P C env ops y.i y.o s = some (y.d, act y.o.dst y.m s) := by rw [stepV_eq, sy]; rfl
    have hmi : ∀ k, k ∈ (l1 ++ l2).map (·.i) ↔ (k ∈ (l1 ++ y :: l2).map (·.i) ∧ k ≠ i) := by
      intro k
      simp only [List.map_append, List.map_cons, List.mem_append, List.mem_cons, List.mem_map]
      constructor
      · rintro (⟨x, hx, rfl⟩ | ⟨x, hx, rfl⟩)
        · exact ⟨.inl ⟨x, hx, rfl⟩, by have := hord.2.2 x hx y (by simp); omega⟩
        · exact ⟨.inr (.inr ⟨x, hx, rfl⟩), by have := (List.pairwise_cons.1 hord.2.1).1 x hx; omega⟩
      · rintro ⟨h | h | h, hne⟩
        · exact .inl h
        · exact absurd (h.trans hyi) hne
        · exact .inr h
    have hsub : (l1 ++ l2).Sublist (l1 ++ y :: l2) := List.Sublist.append_left (List.sublist_cons_self y l2) l1
    have hI2 : Inv ops (masks ops.toList #[]) (l1 ++ l2) (listed.setIfInBounds i true) := by
      refine ⟨fun e he => hI.at_ e (hsub.subset he), fun e he => hI.edge e (hsub.subset he), hI.ord.sublist hsub, hI.pair.sublist hsub, by simp [hI.size], fun k hk => ?_, fun k hk hn j hj => ?_, hI.all⟩
      · rw [hmi]
        by_cases e : k = i
        · subst e
          have : k < listed.size := by rw [hI.size]; exact hk
          simp [Array.getD_eq_getD_getElem?, Array.getElem?_setIfInBounds, this]
        · rw [getD_set_ne true (Ne.symm e), hI.un k hk]
          exact ⟨fun h => ⟨h, e⟩, fun h => h.1⟩
      · rw [hmi] at hn ⊢
        rintro ⟨hj1, hj2⟩
        by_cases e : k = i
        · subst e
          exact hbf j hj hj1
        · exact hI.down k hk (fun h => hn ⟨h, e⟩) j hj hj1
    have hlen : (l1 ++ l2).length ≤ fuel := by simp at hl ⊢; omega
    rw [← hyi]
    exact step_wp hE hsv (hI.at_ y hy) hA fun a' w' hA' => by
      rw [hyi]
      exact ih (l1 ++ l2) _ _ a' w' hlen hI2 hR2 hA'

/-! ### What 'drawK' has looked at -/
theorem draw_runs {R : Type} {r : R} {ops : Array Oper} {bf : Array Nat} : ∀ (l : List Oper) (i : Nat) (log : List E) (s : S) (K : S → Option R), ops.toList.drop i = l → (∀ e ∈ log, e.d.i = e.i ∧ ops[e.i]? = some e.o ∧ e.i < i) → drawK P C env ops bf i l (log.map (·.d)) s K = some r →
    ∃ (es : List E) (sf : S), K sf = some r ∧ Runs P C env ops es s sf ∧ es.map (·.i) = List.range' i l.length ∧ (∀ e ∈ es, ops[e.i]? = some e.o) ∧ (∀ e ∈ es, ∀ ed ∈ e.o.after.toList, Region.binds .any ed = true → ed.on < e.i) ∧
      (es.Pairwise fun x y => (bf.getD y.i 0).testBit x.i = true ∨ FreeE ops x y) ∧ ∀ x ∈ log, ∀ y ∈ es, (bf.getD y.i 0).testBit x.i = true ∨ FreeE ops x y
  | [], i, log, s, K, _, _, h => ⟨[], s, h, Eqv.refl s, rfl, by simp, by simp, .nil, by simp⟩
  | o :: l, i, log, s, K, hd, hlog, h => by
    simp only [drawK] at h
    split at h <;> try (cases h; done)
    rename_i hk
    simp only [Bool.and_eq_true] at hk
    rw [stepK_eq, stepV_eq] at h
    obtain ⟨⟨d, s1⟩, hs, h⟩ := Option.bind_eq_some_iff.1 h
    obtain ⟨⟨d', m⟩, hm, he⟩ := Option.map_eq_some_iff.1 hs
    simp only [Prod.mk.injEq] at he
    obtain ⟨rfl, rfl⟩ := he
    split at h <;> try (cases h; done)
    rename_i hall
    have hio : ops[i]? = some o := by
      rw [← Array.getElem?_toList]
      have := congrArg List.head? hd
      simpa [List.head?_drop] using this
    have hdl : ops.toList.drop (i + 1) = l := by
      have := congrArg List.tail hd
      simpa [List.tail_drop] using this
    have hok := stepM_ok hm
    obtain ⟨es, sf, h1, h2, h3, h4, h5, h6, h7⟩ := draw_runs (r := r) l (i + 1) (⟨i, o, d', m⟩ :: log) (act o.dst m s) K hdl (fun e he => by
      rcases List.mem_cons.1 he with rfl | he
      · exact ⟨hok.i, hio, by simp⟩
      · obtain ⟨q1, q2, q3⟩ := hlog e he
        exact ⟨q1, q2, by omega⟩) h
    have hnew : ∀ x ∈ log, (bf.getD i 0).testBit x.i = true ∨ FreeE ops x ⟨i, o, d', m⟩ := by
      intro x hx
      obtain ⟨q1, q2, q3⟩ := hlog x hx
      have := List.all_eq_true.1 hall x.d (List.mem_map.2 ⟨x, hx, rfl⟩)
      rw [q1, q2] at this
      simp only [Bool.or_eq_true, Bool.and_eq_true] at this
      refine this.imp_right fun ⟨hf, ha⟩ => ?_
      simp only [Did.free, apartK, Bool.and_eq_true, List.all_eq_true, Bool.not_eq_true', List.contains_eq_mem, decide_eq_false_iff_not, List.mem_append, not_or] at hf
      exact ⟨fun k hk => (hf.1.1.1 k hk).2, fun k hk => (hf.1.1.1 k hk).1, fun k hk => (hf.1.1.2 k hk).1, fun k hk => hf.1.2 k hk, fun k hk => hf.2 k hk, ha⟩
    refine ⟨⟨i, o, d', m⟩ :: es, sf, h1, ⟨hk.1, hm, h2⟩, by simp [h3, List.range'_succ], fun e he => ?_, fun e he => ?_, List.pairwise_cons.2 ⟨fun y hy => h7 _ (by simp) y hy, h6⟩, fun x hx y hy => ?_⟩
    · rcases List.mem_cons.1 he with rfl | he
      · exact hio
      · exact h4 e he
    · rcases List.mem_cons.1 he with rfl | he
      · intro ed hed hb
        have := List.all_eq_true.1 hk.2 ed hed
        simp only [hb, Bool.not_true, Bool.false_or, decide_eq_true_eq] at this
        exact this
      · exact h5 e he
    · rcases List.mem_cons.1 hy with rfl | hy
      · exact hnew x hx
      · exact h7 x (by simp [hx]) y hy

theorem Abs.os {s : S} {a : Act} {w w' : World} (h : Abs B0 F0 w0 s a w) (hn : New w w') : Abs B0 F0 w0 s a w' := by
  obtain ⟨F, L, B, hC⟩ := h.core
  exact (hC.new hn (F' := F) (fun _ _ h => h) (fun _ _ h => .inl h)).abs

theorem draw_wp {R : Type} {r : R} {ops : Array Oper} {Q : Exit → Act → World → Prop} {K : S → Option R} {id : Nat} {s : S} {a : Act} {w : World} (hE : EnvOk P env) (hm : P.follows .mixedOrders = true) (h : drawK P C env ops (masks ops.toList #[]) 0 ops.toList [] s K = some r) (hA : Abs B0 F0 w0 s a w)
    (hQ : ∀ s' a w, K s' = some r → Abs B0 F0 w0 s' a w → Q .normal a w) : (Code.region id ops true).wp P Q a w := by
  obtain ⟨es, sf, h1, h2, h3, h4, h5, h6, _⟩ := draw_runs ops.toList 0 [] s K rfl (by simp) h
  have hlen : es.length = ops.size := by
    have := congrArg List.length h3
    simpa using this
  have hmem : ∀ i, i ∈ es.map (·.i) ↔ i < ops.size := fun i => by rw [h3]; simp
  refine wp_region_any hm (any_wp hE (hQ sf · · h1) ops.size es _ s a _ (by omega) ⟨h4, h5, ?_, h6, by simp, fun i hi => ?_, fun i hi hn => absurd ((hmem i).2 hi) hn, fun i o ho ed hed hb => ?_⟩ h2 (hA.os (New.drawn w)))
  · have : (es.map (·.i)).Pairwise (· < ·) := by rw [h3]; exact List.pairwise_lt_range'
    exact List.pairwise_map.1 this
  · simp [hi, (hmem i).2 hi]
  · have hi : i < ops.size := (Array.getElem?_eq_some_iff.1 ho).1
    obtain ⟨e, he, rfl⟩ := List.mem_map.1 ((hmem i).2 hi)
    have := h4 e he
    rw [ho] at this
    cases this
    exact h5 e he ed hed hb
end Go.D
